/- every hold has a text that is parsed as it was. -/
import Derived.WalkKit
import Derived.ProofKit
import Derived.OpenShut
import Derived.ShutString
import Derived.ChangeOld
import Derived.Carry
import Derived.Below
import Derived.SizedLaws
import Derived.Laws.Strings
import Derived.Lib.Bytealg
import Derived.Lib.ParseIntB
import Derived.Lib.ItoaNum
import Derived.Test.YtbjajidphaeogaaDoorProg
import Derived.KernelRfl
import Derived.Laws.Externs
import Derived.Shelf.Strconv.Itoa1
import Derived.Shelf.Strconv.Itoa2
import Derived.Shelf.LaysM
import Derived.Lib.Walk
import Derived.Lib.ItoaMem
import Derived.BigCall
import Derived.BigGuard
import Derived.Shelf.Pu.ParseUintPublic10
import Derived.Shelf.Pu.ErrVarParseUint
import Derived.Shelf.Strconv.ErrVarAll
import Derived.Shelf.Strings.Repeat
import Derived.Test.YtbjajidphaeogaaDoorRows
import Derived.Test.YtbjajidphaeogaaDoorCards
import Derived.Test.YtbjajidphaeogaaDoorTie
import Derived.SevenTiedAt
import Derived.LaidMore
import Derived.Test.YtbjajidphaeogaaDoorW3
section
/- A law's call, from its arguments as they may be read: it returns true, and what was handed in reads as it did. By this session. -/
set_option linter.unusedVariables false
set_option linter.unusedSimpArgs false
namespace Go.Fw
open Go.ChangeShapes Go.WideShapes Go.ChangeAt Go.RowKit
/-- are these types of the program these of plain data? -/
def okTys (P : Program) : List TypeId → List Ty → Bool
  | [], [] => true
  | t :: ts, T :: Ts => okTy P 40 t T && (P.readableRec t && (decide (t < P.types.size) && okTys P ts Ts))
  | _, _ => false
def FitAll : (Ts : List Ty) → Vals Ts → Prop
  | [], _ => True
  | [T], x => T.fit x
  | T :: T' :: Ts, x => T.fit x.1 ∧ FitAll (T' :: Ts) x.2
section
variable {P : Program} {H : Type} {enc : TypeId × Value → H} {W : World} {base : Nat}
theorem read_all : ∀ {ts : List TypeId} {Ts : List Ty} {vs : List Value} {ds : List (DataW H)} {ps : List MemPlace}, okTys P ts Ts = true → DataW.TrodAll enc P W 0 (fun _ => true) true ts vs ds ps →
    (∀ (j : Nat) t v, ts[j]? = some t → vs[j]? = some v → Value.okWide P W .any base t v) →
    ∃ a : Vals Ts, FitAll Ts a ∧ ds.length = ts.length ∧ vs.length = (elts Ts a).length ∧ (∀ (j : Nat) (d : D), (elts Ts a)[j]? = some d → ∃ v, vs[j]? = some v ∧ RelD W (fun b => b < W.heap.size) d v)
  | [], [], vs, ds, ps, hk, h, hv => by
    obtain ⟨rfl, rfl, rfl⟩ := trodAll_nil h
    exact ⟨(), trivial, rfl, rfl, fun j d hd => by simp [elts] at hd⟩
  | [], _ :: _, vs, ds, ps, hk, h, hv => by simp [okTys] at hk
  | _ :: _, [], vs, ds, ps, hk, h, hv => by simp [okTys] at hk
  | t :: ts, T :: Ts, vs, ds, ps, hk, h, hv => by
    simp only [okTys, Bool.and_eq_true] at hk
    obtain ⟨hk, _, _, hks⟩ := hk
    obtain ⟨v, vs', d, ds', p, q, rfl, rfl, rfl, h0, h1⟩ := trodAll_cons h
    obtain ⟨y, hy, hr⟩ := read_arg hk (hv 0 t v rfl rfl) h0
    obtain ⟨a, ha, hl, hls, hrs⟩ := read_all hks h1 fun j t v ht hj => hv (j + 1) t v ht hj
    cases Ts with
    | nil =>
      cases ts with
      | cons => simp [okTys] at hks
      | nil =>
        obtain ⟨rfl, rfl, rfl⟩ := trodAll_nil h1
        refine ⟨y, hy, rfl, rfl, fun j d hd => ?_⟩
        cases j with
        | zero => simp [elts] at hd; subst hd; exact ⟨v, rfl, hr⟩
        | succ j => simp [elts] at hd
    | cons T' Ts =>
      refine ⟨(y, a), ⟨hy, ha⟩, by simp [hl], by simp [elts, hls], fun j d hd => ?_⟩
      cases j with
      | zero => simp [elts] at hd; subst hd; exact ⟨v, rfl, hr⟩
      | succ j => simp only [elts, List.getElem?_cons_succ] at hd; exact hrs j d hd
theorem trod_back (hl : laidOutB P = true) {W' : World} (hb : Below W.heap.size W W') : ∀ {ts : List TypeId} {Ts : List Ty} {vs : List Value} {ds : List (DataW H)} {ps : List MemPlace}, okTys P ts Ts = true → DataW.TrodAll enc P W 0 (fun _ => true) true ts vs ds ps →
    DataW.TrodAll enc P W' 0 (fun b => decide (b < W.heap.size)) true ts vs ds ps
  | [], [], vs, ds, ps, hk, h => by
    obtain ⟨rfl, rfl, rfl⟩ := trodAll_nil h
    exact trodAll_mk0
  | [], _ :: _, vs, ds, ps, hk, h => by simp [okTys] at hk
  | _ :: _, [], vs, ds, ps, hk, h => by simp [okTys] at hk
  | t :: ts, T :: Ts, vs, ds, ps, hk, h => by
    simp only [okTys, Bool.and_eq_true, decide_eq_true_eq] at hk
    obtain ⟨hk, hrr, hsz, hks⟩ := hk
    obtain ⟨v, vs', d, ds', p, q, rfl, rfl, rfl, h0, h1⟩ := trodAll_cons h
    have lt : ∀ x ∈ p, x.block < W.heap.size := by
      obtain ⟨m, hm⟩ := h0
      exact DataW.trod_lt m _ _ _ hm
    exact trodAll_cons_mk (Below.trod hl hrr hsz h0 hb lt) (trod_back hl hb hks h1)
/-- a law's call -/
theorem law_call {G : Nat → Option (List D)} {fn : Func} {g : FuncId} {As : Shs} {F : Vals As.tys → Option Bool} {s : ChangeSpec} {tb : TypeId} (hl : laidOutB P = true)
    (hok : RowOK P G (fnRow g As [(false, .b)] F)) (hgl : Glob ⟨W, fun b => b < W.heap.size, fun _ => False, fun _ => 0, fun _ => 0, G⟩) (hty : okTys P fn.params.toList As.tys = true) (hdec : ∀ a : Vals As.tys, decArgs As (elts As.tys a) = some a)
    (hres : fn.resultTypes = #[tb]) (htb : P.underlying tb = some .bool) (hvars : s.vars = []) (hspec : ∀ ds : List (DataW H), ds.length = fn.params.toList.length → (s.fn H ds).results = [.lit (.bool true)] ∧ (s.fn H ds).args = ds ∧ (s.fn H ds).vars = [])
    (hlaw : ∀ a : Vals As.tys, FitAll As.tys a → F a = some true)
    {args : Array Value} {ds gs : List (DataW H)} {before : List MemPlace} (hval : ∀ (j : Nat) t v, fn.params[j]? = some t → args[j]? = some v → Value.okWide P W .any base t v)
    (hW : DataW.Whole enc P fn.params.toList s.vars false W args.toList ds gs before) :
    Calls P g args W fun e W' => ∃ v, e = .returned v ∧ s.post enc P fn false true false false W args v W' := by
  have hW' := hW
  obtain ⟨p, q, hA, hV, rfl, hfz, hnd⟩ := hW
  obtain ⟨a, ha, hdl, hvl, hr⟩ := read_all hty hA fun j t v ht hv => hval j t v (by rw [← Array.getElem?_toList]; exact ht) (by rw [← Array.getElem?_toList]; exact hv)
  rw [hvars] at hV
  obtain ⟨rfl, rfl⟩ := trodVars_none hV
  have call := (hok _ a true (hdec a) (hlaw a ha)).2
  refine (top_call (W := W) (vs := args) call hgl (by rw [← Array.length_toList]; exact hvl) (fun j d hd => ?_)).mono ?_
  · obtain ⟨v, hv, hrel⟩ := hr j d hd
    rw [Array.getElem?_toList] at hv
    rw [Array.getD_eq_getD_getElem?, hv]
    exact hrel
  · rintro e W' ⟨⟨v, I', rfl, hx⟩, bel⟩
    have hv : v = .bool true := by
      have hx' : RelX W' I' (fun _ => False) (.b true) v := hx
      cases hx'; rfl
    subst hv
    obtain ⟨s1, s2, s3⟩ := hspec (ds ++ []) (by rw [List.append_nil]; exact hdl)
    refine ⟨_, rfl, ds, [], p ++ [], [], p, [], hW', ?_, ?_, ?_, bel.frame _, fun h => by cases h⟩
    · rw [s1, hres]
      exact trodAll_mk1 (shut_bool htb _)
    · rw [s2, List.append_nil]
      exact trod_back hl bel hty hA
    · rw [s3, hvars]; rfl
end
end Go.Fw
end
section
/- Loops as rounds, texts and numbers: plain laws. By this session. -/
set_option linter.unusedVariables false
set_option linter.unusedSimpArgs false
namespace Go.Fw
theorem wrap_i64 {n : Int} (h1 : -9223372036854775808 ≤ n) (h2 : n ≤ 9223372036854775807) : IntKind.wrap .i64 n = n := by rw [IntKind.wrap_i64]; omega
theorem wrap_u64 (n : Int) : IntKind.wrap .u64 n = n % 18446744073709551616 := by
  show (if (false && decide (n % 18446744073709551616 ≥ 9223372036854775808)) = true then n % 18446744073709551616 - 18446744073709551616 else n % 18446744073709551616) = _
  simp
theorem wrap_u8 (n : Int) : IntKind.wrap .u8 n = n % 256 := by
  show (if (false && decide (n % 256 ≥ 128)) = true then n % 256 - 256 else n % 256) = _
  simp
theorem wrap_up {n : Nat} (h : n < 9223372036854775807) : IntKind.wrap .i64 ((n : Int) + 1) = ((n + 1 : Nat) : Int) := by rw [wrap_i64 (by omega) (by omega)]; omega
theorem bt_bound (s : ByteArray) (i : Nat) : 0 ≤ bt s i ∧ bt s i ≤ 255 := by
  unfold bt
  have := (s.data.toList.getD i 0).toNat_lt
  omega
section
variable {S R : Type} {t : S → Option (S ⊕ R)}
theorem rounds_end {s : S} {r : R} (h : t s = some (.inr r)) : rounds t s = some r := by rw [rounds_eq, h]
theorem rounds_next {s s' : S} (h : t s = some (.inl s')) : rounds t s = rounds t s' := by rw [rounds_eq, h]
theorem rounds_to (st : Nat → S) (n : Nat) (h : ∀ i, i < n → t (st i) = some (.inl (st (i + 1)))) : rounds t (st 0) = rounds t (st n) := by
  induction n with
  | zero => rfl
  | succ n ih => rw [ih fun i hi => h i (by omega), rounds_next (h n (by omega))]
/-- rounds that go on while it is so -/
theorem rounds_all (st : Nat → S) (p : Nat → Bool) (out fin : R) (n : Nat) (h : ∀ i, i < n → t (st i) = some (bif p i then .inl (st (i + 1)) else .inr out)) (hf : t (st n) = some (.inr fin)) :
    rounds t (st 0) = some (bif (List.range n).all p then fin else out) := by
  have go : ∀ k, k ≤ n → rounds t (st 0) = bif (List.range k).all p then rounds t (st k) else some out := by
    intro k
    induction k with
    | zero => intro _; rfl
    | succ k ih =>
      intro hk
      rw [ih (by omega), List.range_succ, List.all_append]
      cases (List.range k).all p with
      | false => rfl
      | true =>
        have h1 := h k (by omega)
        cases hp : p k with
        | false => rw [hp] at h1; simp [hp, rounds_end h1]
        | true => rw [hp] at h1; simp [hp, rounds_next h1]
  rw [go n (Nat.le_refl _), rounds_end hf]
  cases (List.range n).all p <;> rfl
end
/-- sums of so many -/
def sumTo (f : Nat → Int) : Nat → Int
  | 0 => 0
  | n + 1 => sumTo f n + f n
theorem sumTo_back (f : Nat → Int) : ∀ n, sumTo (fun j => f (n - 1 - j)) n = sumTo f n := by
  have first : ∀ (g : Nat → Int) (n : Nat), sumTo g (n + 1) = g 0 + sumTo (fun j => g (j + 1)) n := by
    intro g n
    induction n with
    | zero => simp [sumTo]
    | succ n ih => rw [sumTo, ih, sumTo]; omega
  have same : ∀ (g h : Nat → Int) (n : Nat), (∀ j, j < n → g j = h j) → sumTo g n = sumTo h n := by
    intro g h n
    induction n with
    | zero => intro _; rfl
    | succ n ih => intro hh; rw [sumTo, sumTo, ih fun j hj => hh j (by omega), hh n (by omega)]
  intro n
  induction n with
  | zero => rfl
  | succ n ih =>
    rw [first, sumTo, ← ih, same (fun j => f (n + 1 - 1 - (j + 1))) (fun j => f (n - 1 - j)) n fun j hj => by
      have : n + 1 - 1 - (j + 1) = n - 1 - j := by omega
      simp only [this]]
    simp only [Nat.add_sub_cancel, Nat.sub_zero]
    omega
theorem sumTo_bound {f : Nat → Int} {b : Int} : ∀ {n : Nat}, (∀ j, j < n → 0 ≤ f j ∧ f j ≤ b) → 0 ≤ sumTo f n ∧ sumTo f n ≤ b * n
  | 0, _ => by simp [sumTo]
  | n + 1, h => by
    have ih := sumTo_bound (f := f) (b := b) (n := n) fun j hj => h j (by omega)
    have := h n (by omega)
    have e : b * ((n + 1 : Nat) : Int) = b * n + b := by rw [Int.natCast_add, Int.mul_add]; simp
    rw [sumTo, e]
    omega
theorem sumTo_same {g h : Nat → Int} : ∀ {n : Nat}, (∀ j, j < n → g j = h j) → sumTo g n = sumTo h n
  | 0, _ => rfl
  | n + 1, hh => by rw [sumTo, sumTo, sumTo_same fun j hj => hh j (by omega), hh n (by omega)]
/-! ### lists -/
theorem getD_at {α : Type} {l : List α} {i : Nat} {d : α} (h : i < l.length) : l.getD i d = l[i] := by simp [List.getD_eq_getElem?_getD, List.getElem?_eq_getElem h]
theorem take_up {α : Type} {l : List α} {i : Nat} (d : α) (h : i < l.length) : l.take (i + 1) = l.take i ++ [l.getD i d] := by
  rw [List.take_succ_eq_append_getElem h, getD_at h]
theorem range_all {α : Type} (p : α → Bool) (d : α) (l : List α) : ((List.range l.length).all fun i => p (l.getD i d)) = l.all p := by
  rw [Bool.eq_iff_iff, List.all_eq_true, List.all_eq_true]
  constructor
  · intro h x hx
    obtain ⟨i, hi, rfl⟩ := List.getElem_of_mem hx
    have := h i (List.mem_range.2 hi)
    rwa [getD_at hi] at this
  · intro h i hi
    have hi := List.mem_range.1 hi
    rw [getD_at hi]
    exact h _ (List.getElem_mem hi)
/-- is there room for one more? -/
theorem room {n m : Nat} (w k : Nat) (h : n ≤ m) (hw : (m + 1) * w ≤ k) : Nat.ble ((n + 1) * w) k = true := Nat.ble_eq_true_of_le (Nat.le_trans (Nat.mul_le_mul_right w (by omega)) hw)
end Go.Fw
end
section
/- Texts as lists of octets; digits of numbers. By this session. -/
set_option linter.unusedVariables false
set_option linter.unusedSimpArgs false
namespace Go.Fw
open Go
theorem eq_bs (s : ByteArray) : s = bs s.data.toList := by cases s; simp [bs]
theorem bs_data (l : List UInt8) : (bs l).data = l.toArray := rfl
theorem bs_list (l : List UInt8) : (bs l).data.toList = l := by simp [bs]
theorem bs_toList (l : List UInt8) : (bs l).toList = l := by rw [ByteArray.toList_eq, bs_list]
theorem bs_size (l : List UInt8) : (bs l).size = l.length := by show (bs l).data.size = _; simp [bs]
theorem bs_append (l r : List UInt8) : bs l ++ bs r = bs (l ++ r) := by
  apply ByteArray.ext
  rw [ByteArray.data_append]
  simp [bs]
theorem bs_extract (l : List UInt8) (i j : Nat) : (bs l).extract i j = bs ((l.take j).drop i) := by
  apply ByteArray.ext
  rw [ByteArray.data_extract]
  apply Array.toList_inj.1
  simp [bs, List.extract_eq_take_drop, List.drop_take]
theorem bt_bs (l : List UInt8) (i : Nat) : bt (bs l) i = ((l.getD i 0).toNat : Int) := by unfold bt; rw [bs_list]
theorem bs_inj {l r : List UInt8} : bs l = bs r ↔ l = r := ⟨fun h => by rw [← bs_list l, h, bs_list], fun h => by rw [h]⟩
theorem texts_eq (x y : ByteArray) : (ByteArray.toList x == ByteArray.toList y) = decide (x = y) := by
  rw [ByteArray.toList_eq, ByteArray.toList_eq, Bool.eq_iff_iff, beq_iff_eq, decide_eq_true_iff]
  constructor
  · intro h
    cases x; cases y
    simp only [Array.toList_inj] at h
    rw [h]
  · intro h; rw [h]
/-- the digit of a number below 10 -/
abbrev dgt (n : Nat) : UInt8 := UInt8.ofNat (48 + n)
theorem dgt_nat {n : Nat} (h : n < 10) : (dgt n).toNat = 48 + n := by simp [dgt, UInt8.toNat_ofNat']; omega
/-- digits, of numbers above 0; of 0 none -/
def decP : Nat → Nat → List UInt8
  | 0, _ => []
  | k + 1, n => if n = 0 then [] else decP k (n / 10) ++ [dgt (n % 10)]
theorem decF_decP : ∀ (k n : Nat), n < 10 ^ (k + 1) → decF (k + 1) n = decP k (n / 10) ++ [dgt (n % 10)]
  | 0, n, h => by
    have h' : n < 10 := by simpa using h
    have hb : Nat.blt n 10 = true := by rw [Nat.blt_eq]; exact h'
    unfold decF decP
    simp only [hb, cond_true, List.nil_append]
    rw [show n % 10 = n by omega]
  | k + 1, n, h => by
    unfold decF decP
    by_cases h' : n < 10
    · have hb : Nat.blt n 10 = true := by rw [Nat.blt_eq]; exact h'
      simp only [hb, cond_true]
      rw [if_pos (by omega), show n % 10 = n by omega]; rfl
    · have hb : Nat.blt n 10 = false := by
        cases hb : Nat.blt n 10
        · rfl
        · rw [Nat.blt_eq] at hb; omega
      simp only [hb, cond_false]
      rw [if_neg (by omega), decF_decP k (n / 10) (by have : 10 ^ (k + 1 + 1) = 10 ^ (k + 1) * 10 := Nat.pow_succ ..; omega)]
theorem decP_len : ∀ (k n : Nat), (decP k n).length ≤ k
  | 0, _ => by simp [decP]
  | k + 1, n => by
    unfold decP
    split
    · simp
    · have := decP_len k (n / 10); simp; omega
theorem decP_dig : ∀ (k n : Nat) (c : UInt8), c ∈ decP k n → 48 ≤ c.toNat ∧ c.toNat ≤ 57
  | 0, _, c, h => by simp [decP] at h
  | k + 1, n, c, h => by
    unfold decP at h
    split at h
    · simp at h
    · rcases List.mem_append.1 h with h | h
      · exact decP_dig k _ c h
      · rw [List.mem_singleton.1 h, dgt_nat (by omega)]; omega
/-- digits are parsed, one by one -/
theorem parse_decP (M : Nat) : ∀ (k n : Nat) (t : List UInt8), n < 10 ^ k → n < 18446744073709551616 → n ≤ M → Lib.parseUintM M 0 (decP k n ++ t) = Lib.parseUintM M n t
  | 0, n, t, h, _, _ => by
    have : n = 0 := by simpa using h
    subst this; rfl
  | k + 1, n, t, h, h2, h3 => by
    unfold decP
    split
    · rename_i h0; subst h0; rfl
    · rw [List.append_assoc, parse_decP M k (n / 10) _ (by have : 10 ^ (k + 1) = 10 ^ k * 10 := Nat.pow_succ ..; omega) (by omega) (by omega)]
      have hd := dgt_nat (n := n % 10) (by omega)
      conv => lhs; unfold Lib.parseUintM
      simp only [List.singleton_append, hd]
      rw [if_pos (by omega), if_neg (by omega), if_neg (by omega)]
      congr 1
      omega
theorem parse_dig {M acc n : Nat} {t : List UInt8} (h : n < 10) (h1 : acc * 10 + n ≤ M) (h2 : acc * 10 < 18446744073709551610) : Lib.parseUintM M acc (dgt n :: t) = Lib.parseUintM M (acc * 10 + n) t := by
  have hd := dgt_nat h
  conv => lhs; unfold Lib.parseUintM
  simp only [hd]
  rw [if_pos (by omega), if_neg (by omega), if_neg (by omega)]
  congr 1
  omega
theorem indexByte_skip (c : UInt8) : ∀ (l t : List UInt8), (∀ x, x ∈ l → x ≠ c) → Lib.indexByte (l ++ c :: t) c = l.length
  | [], t, _ => by simp [Lib.indexByte]
  | x :: l, t, h => by
    have hx : (x == c) = false := by simpa using h x (List.mem_cons_self ..)
    have ih := indexByte_skip c l t fun y hy => h y (List.mem_cons_of_mem _ hy)
    have hn : (Lib.indexByte (l ++ c :: t) c == -1) = false := by rw [ih]; simp only [beq_eq_false_iff_ne]; omega
    rw [List.cons_append, Lib.indexByte, hx]
    rw [if_neg (by simp), if_neg (by simp [hn]), ih]
    simp
theorem indexByte_lt (c : UInt8) : ∀ (l : List UInt8), Lib.indexByte l c < l.length
  | [] => by simp [Lib.indexByte]
  | x :: l => by
    have ih := indexByte_lt c l
    rw [Lib.indexByte]
    split
    · simp
    · split
      · simp; omega
      · simp; omega
end Go.Fw
end
section
/- The program of this seat, the types of its data, and its functions without a body. By this session. -/
set_option linter.unusedVariables false
set_option linter.unusedSimpArgs false
namespace Go.Proofs.YtbjajidphaeogaaDoor
open Go Go.Fw
noncomputable abbrev P := Tryd.prog
abbrev G0 : Nat → Option (List D) := fun g => bif g == 0 then some [.i .u64 1, .i .u64 10, .i .u64 100, .i .u64 1000, .i .u64 10000, .i .u64 100000, .i .u64 1000000, .i .u64 10000000, .i .u64 100000000, .i .u64 1000000000, .i .u64 10000000000, .i .u64 100000000000, .i .u64 1000000000000, .i .u64 10000000000000, .i .u64 100000000000000, .i .u64 1000000000000000, .i .u64 10000000000000000, .i .u64 100000000000000000, .i .u64 1000000000000000000, .i .u64 10000000000000000000] else none
abbrev G1 : Nat → Option (List D) := fun g => bif g == 0 then some [.i .u64 1, .i .u64 10, .i .u64 100, .i .u64 1000, .i .u64 10000, .i .u64 100000, .i .u64 1000000, .i .u64 10000000, .i .u64 100000000, .i .u64 1000000000, .i .u64 10000000000, .i .u64 100000000000, .i .u64 1000000000000, .i .u64 10000000000000, .i .u64 100000000000000, .i .u64 1000000000000000, .i .u64 10000000000000000, .i .u64 100000000000000000, .i .u64 1000000000000000000, .i .u64 10000000000000000000] else bif g == 2 then some [.er true] else bif g == 3 then some [.er true] else none
abbrev G2 : Nat → Option (List D) := fun g => bif g == 0 then some [.i .u64 1, .i .u64 10, .i .u64 100, .i .u64 1000, .i .u64 10000, .i .u64 100000, .i .u64 1000000, .i .u64 10000000, .i .u64 100000000, .i .u64 1000000000, .i .u64 10000000000, .i .u64 100000000000, .i .u64 1000000000000, .i .u64 10000000000000, .i .u64 100000000000000, .i .u64 1000000000000000, .i .u64 10000000000000000, .i .u64 100000000000000000, .i .u64 1000000000000000000, .i .u64 10000000000000000000] else bif g == 2 then some [.er true] else bif g == 3 then some [.er true] else bif g == 7 then some [.i .u8 128, .i .u8 191, .i .u8 160, .i .u8 191, .i .u8 128, .i .u8 159, .i .u8 144, .i .u8 191, .i .u8 128, .i .u8 143, .i .u8 0, .i .u8 0, .i .u8 0, .i .u8 0, .i .u8 0, .i .u8 0, .i .u8 0, .i .u8 0, .i .u8 0, .i .u8 0, .i .u8 0, .i .u8 0, .i .u8 0, .i .u8 0, .i .u8 0, .i .u8 0, .i .u8 0, .i .u8 0, .i .u8 0, .i .u8 0, .i .u8 0, .i .u8 0] else none
theorem g01 : ∀ g cs, G0 g = some cs → G1 g = some cs := by
  intro g cs h
  unfold G0 at h
  unfold G1
  cases h0 : (g == 0) with
  | true => rw [h0] at h; exact h
  | false =>
  rw [h0] at h
  simp only [cond_false] at h ⊢
  cases h
theorem g02 : ∀ g cs, G0 g = some cs → G2 g = some cs := by
  intro g cs h
  unfold G0 at h
  unfold G2
  cases h0 : (g == 0) with
  | true => rw [h0] at h; exact h
  | false =>
  rw [h0] at h
  simp only [cond_false] at h ⊢
  cases h
theorem g12 : ∀ g cs, G1 g = some cs → G2 g = some cs := by
  intro g cs h
  unfold G1 at h
  unfold G2
  cases h0 : (g == 0) with
  | true => rw [h0] at h; exact h
  | false =>
  rw [h0] at h
  simp only [cond_false] at h ⊢
  cases h2 : (g == 2) with
  | true => rw [h2] at h; exact h
  | false =>
  rw [h2] at h
  simp only [cond_false] at h ⊢
  cases h3 : (g == 3) with
  | true => rw [h3] at h; exact h
  | false =>
  rw [h3] at h
  simp only [cond_false] at h ⊢
  cases h
abbrev T_api_Account : Ty := (.g (.p (.i .i64) .s))
abbrev T_utf8_acceptRange : Ty := (.g (.p (.i .u8) (.i .u8)))
abbrev T_api_Line : Ty := (.g (.p T_api_Account (.i .i64)))
abbrev T_bursarlaw01_Back : Ty := (.g (.p (.i .i64) (.p (.i .i64) (.p (.l (.i .i64)) (.i .u16)))))
abbrev T_api_Entry : Ty := (.g (.p (.i .i64) (.p .s (.l T_api_Line))))
abbrev T_api_Hold : Ty := (.g (.p .s (.p .s (.p .s (.p (.i .i64) (.p (.i .i64) (.p (.i .i64) .b)))))))
abbrev T_bursarlaw12_Moved : Ty := (.g (.p (.i .i64) (.p .s (.p T_api_Account (.p T_api_Account (.i .i64))))))
def add64 : List D → Option (Bool × D) := fun ds => match ds with
  | [.i .u64 x, .i .u64 y, .i .u64 c] => some (decide (0 ≤ x) && decide (0 ≤ y) && decide (0 ≤ c) && decide (c ≤ 1), .tp [.i .u64 ((x + y + c) % 18446744073709551616), .i .u64 ((x + y + c) / 18446744073709551616)])
  | _ => none
theorem add64_ok : ExtOK P 53 (bare add64) := by
  intro ds r h w I vs hsz hv
  unfold bare add64 at h
  split at h
  · rename_i b q hq
    obtain ⟨hb, h⟩ := cond_some h
    injection h with h
    subst h
    split at hq
    · rename_i x y c
      injection hq with hq
      injection hq with hq1 hq2
      subst hq2
      rw [hb] at hq1
      simp only [Bool.and_eq_true, decide_eq_true_eq] at hq1
      have e0 := hv 0 _ rfl
      have e1 := hv 1 _ rfl
      have e2 := hv 2 _ rfl
      have hvs : vs = #[.int .u64 x, .int .u64 y, .int .u64 c] := by
        have : vs = #[vs.getD 0 undef, vs.getD 1 undef, vs.getD 2 undef] := by
          apply Array.ext
          · simpa using hsz
          · intro i hi hi'
            simp at hi'
            have : i = 0 ∨ i = 1 ∨ i = 2 := by omega
            rcases this with rfl | rfl | rfl <;> simp [Array.getD_eq_getD_getElem?, Array.getElem?_eq_getElem hi]
        rw [this]
        generalize vs.getD 0 undef = a0 at e0
        generalize vs.getD 1 undef = a1 at e1
        generalize vs.getD 2 undef = a2 at e2
        cases e0; cases e1; cases e2
        rfl
      refine ⟨_, by rw [hvs, run_callFunc_extern Tryd.func53 (by kernel_rfl) (by kernel_rfl) (by kernel_rfl) (e := add64Entry) (by kernel_rfl), run_add64 x y c (by omega) (by omega) (by omega) (by omega)]; rfl, ?_⟩
      refine .tp _ _ rfl fun j d hj => ?_
      match j, hj with
      | 0, hj => simp at hj; subst hj; exact .i _ _
      | 1, hj => simp at hj; subst hj; exact .i _ _
      | j + 2, hj => simp at hj
    · cases hq
  · cases h
def cntB : List D → Option (Bool × D) := fun ds => match ds with
  | [.s x, .i .u8 y] => some (true, .i .i64 (((Lib.countByte x.data.toList y.toNat.toUInt8 : Nat) : Int)))
  | _ => none
theorem cntB_ok : ExtOK P 153 (bare cntB) := by
  intro ds r h w I vs hsz hv
  unfold bare cntB at h
  split at h
  · rename_i b q hq
    obtain ⟨hb, h⟩ := cond_some h
    injection h with h
    subst h
    split at hq
    · rename_i x y
      injection hq with hq
      injection hq with hq1 hq2
      subst hq2
      have e0 := hv 0 _ rfl
      have e1 := hv 1 _ rfl
      have hvs : vs = #[vs.getD 0 undef, vs.getD 1 undef] := by
        apply Array.ext
        · simpa using hsz
        · intro i hi hi'
          simp at hi'
          have : i = 0 ∨ i = 1 := by omega
          rcases this with rfl | rfl <;> simp [Array.getD_eq_getD_getElem?, Array.getElem?_eq_getElem hi]
      generalize vs.getD 0 undef = a0 at e0 hvs
      generalize vs.getD 1 undef = a1 at e1 hvs
      cases e0; cases e1
      refine ⟨_, by rw [hvs, run_callFunc_extern Tryd.func153 (by kernel_rfl) (by kernel_rfl) (by kernel_rfl) (e := Extern.BytealgCount.count) (by kernel_rfl), Lib.run_countString]; rfl, ?_⟩
      exact .i _ _
    · cases hq
  · cases h
def idxB : List D → Option (Bool × D) := fun ds => match ds with
  | [.s x, .i .u8 y] => some (true, .i .i64 (Lib.indexByte x.data.toList y.toNat.toUInt8))
  | _ => none
theorem idxB_ok : ExtOK P 156 (bare idxB) := by
  intro ds r h w I vs hsz hv
  unfold bare idxB at h
  split at h
  · rename_i b q hq
    obtain ⟨hb, h⟩ := cond_some h
    injection h with h
    subst h
    split at hq
    · rename_i x y
      injection hq with hq
      injection hq with hq1 hq2
      subst hq2
      have e0 := hv 0 _ rfl
      have e1 := hv 1 _ rfl
      have hvs : vs = #[vs.getD 0 undef, vs.getD 1 undef] := by
        apply Array.ext
        · simpa using hsz
        · intro i hi hi'
          simp at hi'
          have : i = 0 ∨ i = 1 := by omega
          rcases this with rfl | rfl <;> simp [Array.getD_eq_getD_getElem?, Array.getElem?_eq_getElem hi]
      generalize vs.getD 0 undef = a0 at e0 hvs
      generalize vs.getD 1 undef = a1 at e1 hvs
      cases e0; cases e1
      refine ⟨_, by rw [hvs, run_callFunc_extern Tryd.func156 (by kernel_rfl) (by kernel_rfl) (by kernel_rfl) (e := Extern.BytealgIndexByte.indexByte) (by kernel_rfl), Lib.run_indexByteString]; rfl, ?_⟩
      exact .i _ _
    · cases hq
  · cases h
abbrev E0 : FuncId → Option (List D → Option (Bool × D)) := fun g => bif g == 53 then some add64 else bif g == 153 then some cntB else bif g == 156 then some idxB else none
theorem e0_ok : ∀ g f, E0 g = some f → ExtOK P g (bare f) := by
  intro g f h
  unfold E0 at h
  cases hg53 : (g == 53) with
  | true =>
    rw [hg53] at h
    injection h with h
    subst h
    have : g = 53 := by simpa using hg53
    subst this
    exact add64_ok
  | false =>
  rw [hg53] at h
  simp only [cond_false] at h
  cases hg153 : (g == 153) with
  | true =>
    rw [hg153] at h
    injection h with h
    subst h
    have : g = 153 := by simpa using hg153
    subst this
    exact cntB_ok
  | false =>
  rw [hg153] at h
  simp only [cond_false] at h
  cases hg156 : (g == 156) with
  | true =>
    rw [hg156] at h
    injection h with h
    subst h
    have : g = 156 := by simpa using hg156
    subst this
    exact idxB_ok
  | false =>
  rw [hg156] at h
  simp only [cond_false] at h
  cases h
end Go.Proofs.YtbjajidphaeogaaDoor
end
section
/- Contracts of the library at this program, in plain words. Written by a tool of the kit.
-/
namespace Go.Proofs
open Go.Shelf
def Tryd.lays283_ren : Go.Shelf.Ren := ⟨fun | 283 => 113 | n => n, fun | 3 => 3 | 9 => 9 | 4 => 4 | n => n, fun | n => n⟩
theorem Tryd.lays283 : Go.Proofs.Lays.n283 Tryd.prog Tryd.lays283_ren := {
  mixed := by kernel_rfl
  f283 := Tryd.func113.trans (congrArg some (by kernel_rfl))
  t3 := Tryd.underlying3
  a3 := Tryd.isAgg3
  z3 := Tryd.sizeOf3
  v3 := Tryd.zeroValue3
  t4 := Tryd.underlying4
  a4 := Tryd.isAgg4
  z4 := Tryd.sizeOf4
  v4 := Tryd.zeroValue4
  t9 := Tryd.underlying9
  a9 := Tryd.isAgg9
  z9 := Tryd.sizeOf9
  v9 := Tryd.zeroValue9 }
def Tryd.laysM284_ren : Go.Shelf.Ren := ⟨fun | 284 => 114 | 129 => 138 | 317 => 137 | 318 => 139 | n => n, fun | 53 => 89 | 3 => 3 | 212 => 177 | 0 => 0 | 4 => 4 | 46 => 92 | 5 => 5 | 9 => 9 | n => n, fun | 17 => 0 | n => n⟩
theorem Tryd.laysM284 : Go.Proofs.LaysM.n284 Tryd.prog Tryd.laysM284_ren := {
  mixed := by kernel_rfl
  f129 := Tryd.func138.trans (congrArg some (by kernel_rfl))
  f284 := Tryd.func114.trans (congrArg some (by kernel_rfl))
  f317 := Tryd.func137.trans (congrArg some (by kernel_rfl))
  f318 := Tryd.func139.trans (congrArg some (by kernel_rfl))
  t0 := Tryd.underlying0
  a0 := Tryd.isAgg0
  z0 := Tryd.sizeOf0
  v0 := Tryd.zeroValue0
  t3 := Tryd.underlying3
  a3 := Tryd.isAgg3
  z3 := Tryd.sizeOf3
  v3 := Tryd.zeroValue3
  t4 := Tryd.underlying4
  a4 := Tryd.isAgg4
  z4 := Tryd.sizeOf4
  v4 := Tryd.zeroValue4
  t5 := Tryd.underlying5
  a5 := Tryd.isAgg5
  z5 := Tryd.sizeOf5
  v5 := Tryd.zeroValue5
  t9 := Tryd.underlying9
  a9 := Tryd.isAgg9
  z9 := Tryd.sizeOf9
  v9 := Tryd.zeroValue9
  t46 := Tryd.underlying92
  a46 := Tryd.isAgg92
  z46 := Tryd.sizeOf92
  v46 := Tryd.zeroValue92
  t53 := Tryd.underlying89
  a53 := Tryd.isAgg89
  z53 := Tryd.sizeOf89
  v53 := Tryd.zeroValue89
  t212 := Tryd.underlying177
  a212 := Tryd.isAgg177
  z212 := Tryd.sizeOf177
  v212 := Tryd.zeroValue177
  g17 := by kernel_rfl
  i0 := by kernel_rfl
  i3 := by kernel_rfl
  i4 := by kernel_rfl
  i5 := by kernel_rfl
  i9 := by kernel_rfl
  i46 := by kernel_rfl
  i53 := by kernel_rfl
  i212 := by kernel_rfl
  m17 := by kernel_rfl }
def Tryd.lays285_ren : Go.Shelf.Ren := ⟨fun | 285 => 115 | n => n, fun | 37 => 117 | 53 => 89 | 3 => 3 | 4 => 4 | 51 => 178 | 9 => 9 | 5 => 5 | 0 => 0 | n => n, fun | n => n⟩
theorem Tryd.lays285 : Go.Proofs.Lays.n285 Tryd.prog Tryd.lays285_ren := {
  mixed := by kernel_rfl
  f285 := Tryd.func115.trans (congrArg some (by kernel_rfl))
  t0 := Tryd.underlying0
  a0 := Tryd.isAgg0
  z0 := Tryd.sizeOf0
  v0 := Tryd.zeroValue0
  t3 := Tryd.underlying3
  a3 := Tryd.isAgg3
  z3 := Tryd.sizeOf3
  v3 := Tryd.zeroValue3
  t4 := Tryd.underlying4
  a4 := Tryd.isAgg4
  z4 := Tryd.sizeOf4
  v4 := Tryd.zeroValue4
  t5 := Tryd.underlying5
  a5 := Tryd.isAgg5
  z5 := Tryd.sizeOf5
  v5 := Tryd.zeroValue5
  t9 := Tryd.underlying9
  a9 := Tryd.isAgg9
  z9 := Tryd.sizeOf9
  v9 := Tryd.zeroValue9
  t37 := Tryd.underlying117
  a37 := Tryd.isAgg117
  z37 := Tryd.sizeOf117
  v37 := Tryd.zeroValue117
  t51 := Tryd.underlying178
  a51 := Tryd.isAgg178
  z51 := Tryd.sizeOf178
  v51 := Tryd.zeroValue178
  t53 := Tryd.underlying89
  a53 := Tryd.isAgg89
  z53 := Tryd.sizeOf89
  v53 := Tryd.zeroValue89 }
end Go.Proofs
end
section
/- strconv.FormatUint at base 10: the decimal digits, for every number. By this session, after the library's contract of FormatInt. -/
set_option linter.unusedVariables false
namespace Go.Proofs
open Go.Shelf Go.RowKit Go.Sort Go.Lib
theorem Tryd.holds_zero0 (w : World) (T : TypeId) (nd : Nat) (hs : nd ≤ 24) : Holds (fun (b : UInt8) => Value.int .u8 (b.toNat : Int)) (w.alloc (.cells zeros24 T)) w.heap.size 0 (Array.replicate nd (0 : UInt8)) := fun j hj => by
  have hj' : j < nd := by simpa using hj
  refine ⟨?_, World.frozen?_alloc_new _ _ _ _⟩
  rw [World.cell?_alloc_new, zeros24_at _ (by omega), getElem!_pos _ j hj]
  simp
theorem Tryd.fin0 (w : World) (o : Obj) (dk : Array UInt8) (k : Nat) : ∃ os, (putRow (fun (b : UInt8) => Value.int .u8 (b.toNat : Int)) (w.alloc o) w.heap.size 0 dk).drewN k = grow (w.drewN k) os := by
  rw [alloc_eq_grow]
  obtain ⟨os', _, e⟩ := putRow_grow_new (fun (b : UInt8) => Value.int .u8 (b.toNat : Int)) w #[o] w.heap.size 0 dk (Nat.le_refl _)
  exact ⟨os', by rw [e]; rfl⟩
set_option maxHeartbeats 6400000 in
set_option maxRecDepth 100000 in
theorem Tryd.fmtUint_in (u : Nat) (hu64 : u < 18446744073709551616) (w : World) (htab : Lib.TabIs Tryd.prog w "internal/strconv.uint64pow10" .u64 Lib.pow10Tab) :
    Calls Tryd.prog 97 #[.int .u64 u, .int .i64 10] w fun e w' => e = .returned (.string ⟨(Lib.decDigits u).toArray⟩) ∧ ∃ k os, w' = grow (w.drewN k) os := by
  by_cases hs : u < 100
  · go_enter Tryd.func97, Tryd.ntmps97
    go_wp2_with (go_at_call 113; refine (Any.internal_strconv_small Tryd.lays283 u hs _).mono ?_; rintro e w' ⟨rfl, rfl⟩)
    go_ret
    exact ⟨rfl, 0, #[], by simp [World.drewN_zero]⟩
  · have hu1 : 1 ≤ u := by omega
    have hnd20 : Lib.nDigits u ≤ 20 := by have := Lib.numDigits_eq u hu1 hu64; split at this <;> omega
    have hb3 : Lib.nDigits u ≤ 24 := by omega
    have hal : Tryd.prog.arrayLen 151 = 24 := by kernel_rfl
    have hsl1 : ∀ W, (Instr.sliceAt 151 (.pointer (some ⟨w.heap.size, 0, none⟩)) none (some (.int .i64 (Lib.nDigits u : Int))) none).run Tryd.prog W = .ok (.slice (some ⟨w.heap.size, 0, none⟩) (Lib.nDigits u) 24) W := fun W => by
      rw [run_sliceAt_array_h W 151 ⟨w.heap.size, 0, none⟩ (by simp [Program.arrayLen, Program.elem, Tryd.underlying151]) .i64 (Lib.nDigits u : Int) (by omega) (by rw [hal]; omega)]
      go_simp
    have hH0 := Tryd.holds_zero0 w 151 (Lib.nDigits u) (by omega)
    have hfmt := Any.internal_strconv_formatBase10 Tryd.lays285 w.heap.size 0 24 u (Array.replicate (Lib.nDigits u) 0) (w.alloc (.cells Lib.zeros24 151)) hH0 (by rw [Array.size_replicate]; exact Lib.lt_pow_nDigits u) hu64 (by rw [Array.size_replicate]; omega)
    rw [Array.size_replicate] at hfmt
    have HH0 := Lib.hid hH0
    clear hH0 hal
    go_enter Tryd.func97, Tryd.ntmps97
    go_wp2_with (first
      | (go_at_call 114; refine (Any.internal_strconv_numDigits Tryd.laysM284 u hu1 hu64 _ (Lib.tabIs_alloc htab _)).mono ?_; rintro e w' ⟨rfl, rfl⟩))
    go_at_call 115
    refine hfmt.mono ?_
    rintro e w' ⟨rfl, k, v', dk, rfl, hF⟩
    have hcv : (convert 117 9 (.slice (some ⟨w.heap.size, 0, none⟩) (Lib.nDigits u) 24)).run Tryd.prog ((putRow (fun (b : UInt8) => Value.int .u8 (b.toNat : Int)) (w.alloc (.cells Lib.zeros24 151)) w.heap.size 0 dk).drewN k) = .ok (.string ⟨(Lib.decDigits u).toArray⟩) ((putRow (fun (b : UInt8) => Value.int .u8 (b.toNat : Int)) (w.alloc (.cells Lib.zeros24 151)) w.heap.size 0 dk).drewN k) := by
      have h := run_convert_bytes_back (P := Tryd.prog) ((putRow (fun (b : UInt8) => Value.int .u8 (b.toNat : Int)) (w.alloc (.cells Lib.zeros24 151)) w.heap.size 0 dk).drewN k) 117 9 5 ⟨w.heap.size, 0, none⟩ 24 (Lib.decDigits u) Tryd.underlying117 Tryd.underlying5 Tryd.underlying9 (fun j hj => by
        rw [Lib.row_is_numeral hF j hj, Lib.add_plain, World.cell?_drewN]
        exact cell?_putRow (fun (b : UInt8) => Value.int .u8 (b.toNat : Int)) _ w.heap.size 0 _ dk HH0.out (by rw [hF.size, Array.size_replicate]) j (by rw [hF.size]; rw [Lib.decDigits_length] at hj; exact hj))
      rw [Lib.decDigits_length] at h
      exact h
    go_wp2
    go_ret
    obtain ⟨os, eo⟩ := Tryd.fin0 w (.cells Lib.zeros24 151) dk k
    exact ⟨rfl, k, os, eo⟩
set_option maxRecDepth 100000 in
theorem Tryd.fmtUint (u : Nat) (hu64 : u < 18446744073709551616) (w : World) (htab : Lib.TabIs Tryd.prog w "internal/strconv.uint64pow10" .u64 Lib.pow10Tab) :
    Calls Tryd.prog 69 #[.int .u64 u, .int .i64 10] w fun e w' => e = .returned (.string ⟨(Lib.decDigits u).toArray⟩) ∧ ∃ k os, w' = grow (w.drewN k) os := by
  go_enter Tryd.func69, Tryd.ntmps69
  go_wp2_with (go_at_call 97; refine (Tryd.fmtUint_in u hu64 _ htab).mono ?_; rintro e w' ⟨rfl, k, os, rfl⟩)
  go_ret
  exact ⟨rfl, k, os, rfl⟩
end Go.Proofs
end
section
/- Functions of the library, as rows, by its contracts. By this session. -/
set_option linter.unusedVariables false
namespace Go.Proofs.YtbjajidphaeogaaDoor
open Go Go.Fw Go.RowKit
theorem grow_below (w : World) (k : Nat) (os : Array Obj) : Below w.heap.size w (Sort.grow (w.drewN k) os) := by
  have h : Below w.heap.size w (w.drewN k) := by
    induction k with
    | zero => rw [World.drewN_zero]; exact .refl _ _
    | succ k ih => exact ⟨rfl, rfl, rfl, Nat.le_refl _, fun _ _ => rfl⟩
  exact h.trans ⟨rfl, rfl, rfl, by simp [Sort.grow], fun i hi => by
    show ((w.drewN k).heap ++ os)[i]? = _
    rw [Array.getElem?_append, if_pos (Nat.lt_of_lt_of_le hi h.size)]⟩
theorem ent_of {g : FuncId} {fn : Func} (h : P.funcs[g]? = some fn) (hn : (fn.name == "runtime.NumGoroutine") = false) (hb : fn.body.isNone = false) : Fw.Enters P g := ⟨fn, h, hn, hb⟩
/-! FormatUint -/
abbrev strconv_FormatUint.As : Shs := .cons (.x (.i .u64)) (.cons (.x (.i .i64)) .nil)
abbrev strconv_FormatUint.m : Back := [(false, .s)]
abbrev strconv_FormatUint.f (a : (Int × Int)) : Option ByteArray := fmtU a
noncomputable abbrev strconv_FormatUint.row : Row := fnRow 69 strconv_FormatUint.As strconv_FormatUint.m strconv_FormatUint.f
theorem strconv_FormatUint.row_ok : RowOK P G0 strconv_FormatUint.row := by
  have key : ∀ (ds : List D) (a : Int × Int) (q : ByteArray), decArgs strconv_FormatUint.As ds = some a → strconv_FormatUint.f a = some q → Fw.Enters P 69 ∧ PCall P G0 69 ds (.s q) := by
    intro ds a q ha hq
    refine ⟨ent_of Tryd.func69 (by kernel_rfl) (by kernel_rfl), ?_⟩
    have hds := (decArgs_argD ha).symm
    refine PCall.coe (ds' := argD strconv_FormatUint.As a) ?_ (by rw [← hds]; exact coeA_len) fun w I f hf => by rw [← hds]; exact coeA_rel hf
    refine pcall_below fun w I K vs hg hsz hr => ?_
    have h0 := hr 0 (.i .u64 a.1) rfl
    have h1 := hr 1 (.i .i64 a.2) rfl
    have hvs : vs = #[.int .u64 a.1, .int .i64 a.2] := by
      have hs : vs.size = 2 := hsz
      rw [Array.getD_eq_getD_getElem?, Array.getElem?_eq_getElem (by omega)] at h0 h1
      simp only [Option.getD_some] at h0 h1
      refine Array.ext (by simpa using hs) fun i hi hi' => ?_
      match i, hi with
      | 0, _ => cases h : vs[0] <;> rw [h] at h0 <;> cases h0; rfl
      | 1, _ => cases h : vs[1] <;> rw [h] at h1 <;> cases h1; rfl
      | i + 2, hi => omega
    subst hvs
    unfold strconv_FormatUint.f fmtU at hq
    obtain ⟨hb, hq⟩ := cond_some hq
    simp only [Bool.and_eq_true, decide_eq_true_eq] at hb
    obtain ⟨⟨h2, h3⟩, h4⟩ := hb
    injection hq with hq
    subst hq
    obtain ⟨u, hu⟩ : ∃ u : Nat, a.1 = u := ⟨a.1.toNat, by omega⟩
    rw [hu, h4]
    refine (Tryd.fmtUint u (by omega) w (tab_of_glob hg (g := 0) (by kernel_rfl) rfl)).mono ?_
    rintro e w' ⟨rfl, k, os, rfl⟩
    refine ⟨_, rfl, grow_below w k os, ?_⟩
    rw [decF_is 19 _ (by omega)]
    exact RelD.s _
  exact fun ds a q => key ds a q
end Go.Proofs.YtbjajidphaeogaaDoor
end
section
/- Contracts of the library at this program, in plain words. Written by a tool of the kit.
-/
namespace Go.Proofs
open Go.Shelf
def Tryd.laysPu14_ren : Go.Shelf.Ren := ⟨fun | 14 => 72 | 16 => 100 | 17 => 101 | 19 => 119 | 20 => 120 | 21 => 121 | 22 => 122 | 23 => 123 | 24 => 124 | 25 => 146 | 27 => 61 | 26 => 147 | 28 => 90 | 29 => 110 | 30 => 113 | 31 => 114 | 32 => 115 | 33 => 116 | 35 => 138 | 34 => 137 | 36 => 139 | 37 => 140 | 38 => 141 | 39 => 154 | 40 => 155 | n => n, fun | 9 => 9 | 3 => 3 | 22 => 89 | 24 => 114 | 25 => 115 | 4 => 4 | 34 => 158 | 5 => 5 | 36 => 92 | 37 => 117 | 0 => 0 | 39 => 160 | 21 => 21 | 44 => 183 | 47 => 187 | 50 => 194 | 48 => 192 | 2 => 2 | 52 => 151 | 55 => 154 | 59 => 177 | 60 => 178 | 20 => 20 | 61 => 179 | 65 => 198 | 66 => 199 | 67 => 172 | n => n, fun | 0 => 2 | 1 => 3 | 2 => 0 | 3 => 4 | 4 => 5 | n => n⟩
theorem Tryd.laysPu14 : Go.Proofs.LaysPu.n14 Tryd.prog Tryd.laysPu14_ren := {
  mixed := by kernel_rfl
  f14 := Tryd.func72.trans (congrArg some (by kernel_rfl))
  f16 := Tryd.func100.trans (congrArg some (by kernel_rfl))
  f17 := Tryd.func101.trans (congrArg some (by kernel_rfl))
  f19 := Tryd.func119.trans (congrArg some (by kernel_rfl))
  f20 := Tryd.func120.trans (congrArg some (by kernel_rfl))
  f21 := Tryd.func121.trans (congrArg some (by kernel_rfl))
  f22 := Tryd.func122.trans (congrArg some (by kernel_rfl))
  f23 := Tryd.func123.trans (congrArg some (by kernel_rfl))
  f24 := Tryd.func124.trans (congrArg some (by kernel_rfl))
  f25 := Tryd.func146.trans (congrArg some (by kernel_rfl))
  f26 := Tryd.func147.trans (congrArg some (by kernel_rfl))
  f27 := Tryd.func61.trans (congrArg some (by kernel_rfl))
  f28 := Tryd.func90.trans (congrArg some (by kernel_rfl))
  f29 := Tryd.func110.trans (congrArg some (by kernel_rfl))
  f30 := Tryd.func113.trans (congrArg some (by kernel_rfl))
  f31 := Tryd.func114.trans (congrArg some (by kernel_rfl))
  f32 := Tryd.func115.trans (congrArg some (by kernel_rfl))
  f33 := Tryd.func116.trans (congrArg some (by kernel_rfl))
  f34 := Tryd.func137.trans (congrArg some (by kernel_rfl))
  f35 := Tryd.func138.trans (congrArg some (by kernel_rfl))
  f36 := Tryd.func139.trans (congrArg some (by kernel_rfl))
  f37 := Tryd.func140.trans (congrArg some (by kernel_rfl))
  f38 := Tryd.func141.trans (congrArg some (by kernel_rfl))
  f39 := Tryd.func154.trans (congrArg some (by kernel_rfl))
  f40 := Tryd.func155.trans (congrArg some (by kernel_rfl))
  t0 := Tryd.underlying0
  a0 := Tryd.isAgg0
  z0 := Tryd.sizeOf0
  v0 := Tryd.zeroValue0
  i0 := by kernel_rfl
  t2 := Tryd.underlying2
  a2 := Tryd.isAgg2
  z2 := Tryd.sizeOf2
  v2 := Tryd.zeroValue2
  i2 := by kernel_rfl
  t3 := Tryd.underlying3
  a3 := Tryd.isAgg3
  z3 := Tryd.sizeOf3
  v3 := Tryd.zeroValue3
  i3 := by kernel_rfl
  t4 := Tryd.underlying4
  a4 := Tryd.isAgg4
  z4 := Tryd.sizeOf4
  v4 := Tryd.zeroValue4
  i4 := by kernel_rfl
  t5 := Tryd.underlying5
  a5 := Tryd.isAgg5
  z5 := Tryd.sizeOf5
  v5 := Tryd.zeroValue5
  i5 := by kernel_rfl
  t9 := Tryd.underlying9
  a9 := Tryd.isAgg9
  z9 := Tryd.sizeOf9
  v9 := Tryd.zeroValue9
  i9 := by kernel_rfl
  t20 := Tryd.underlying20
  a20 := Tryd.isAgg20
  z20 := Tryd.sizeOf20
  v20 := Tryd.zeroValue20
  i20 := by kernel_rfl
  t21 := Tryd.underlying21
  a21 := Tryd.isAgg21
  z21 := Tryd.sizeOf21
  v21 := Tryd.zeroValue21
  i21 := by kernel_rfl
  t22 := Tryd.underlying89
  a22 := Tryd.isAgg89
  z22 := Tryd.sizeOf89
  v22 := Tryd.zeroValue89
  i22 := by kernel_rfl
  t24 := Tryd.underlying114
  a24 := Tryd.isAgg114
  z24 := Tryd.sizeOf114
  v24 := Tryd.zeroValue114
  i24 := by kernel_rfl
  t25 := Tryd.underlying115
  a25 := Tryd.isAgg115
  z25 := Tryd.sizeOf115
  v25 := Tryd.zeroValue115
  i25 := by kernel_rfl
  t34 := Tryd.underlying158
  a34 := Tryd.isAgg158
  z34 := Tryd.sizeOf158
  v34 := Tryd.zeroValue158
  i34 := by kernel_rfl
  c34 := by kernel_rfl
  t36 := Tryd.underlying92
  a36 := Tryd.isAgg92
  z36 := Tryd.sizeOf92
  v36 := Tryd.zeroValue92
  i36 := by kernel_rfl
  t37 := Tryd.underlying117
  a37 := Tryd.isAgg117
  z37 := Tryd.sizeOf117
  v37 := Tryd.zeroValue117
  i37 := by kernel_rfl
  t39 := Tryd.underlying160
  a39 := Tryd.isAgg160
  z39 := Tryd.sizeOf160
  v39 := Tryd.zeroValue160
  i39 := by kernel_rfl
  t44 := Tryd.underlying183
  a44 := Tryd.isAgg183
  z44 := Tryd.sizeOf183
  v44 := Tryd.zeroValue183
  i44 := by kernel_rfl
  t47 := Tryd.underlying187
  a47 := Tryd.isAgg187
  z47 := Tryd.sizeOf187
  v47 := Tryd.zeroValue187
  i47 := by kernel_rfl
  t48 := Tryd.underlying192
  a48 := Tryd.isAgg192
  z48 := Tryd.sizeOf192
  v48 := Tryd.zeroValue192
  i48 := by kernel_rfl
  t50 := Tryd.underlying194
  a50 := Tryd.isAgg194
  z50 := Tryd.sizeOf194
  v50 := Tryd.zeroValue194
  i50 := by kernel_rfl
  t52 := Tryd.underlying151
  a52 := Tryd.isAgg151
  z52 := Tryd.sizeOf151
  v52 := Tryd.zeroValue151
  i52 := by kernel_rfl
  t55 := Tryd.underlying154
  a55 := Tryd.isAgg154
  z55 := Tryd.sizeOf154
  v55 := Tryd.zeroValue154
  i55 := by kernel_rfl
  t59 := Tryd.underlying177
  a59 := Tryd.isAgg177
  z59 := Tryd.sizeOf177
  v59 := Tryd.zeroValue177
  i59 := by kernel_rfl
  t60 := Tryd.underlying178
  a60 := Tryd.isAgg178
  z60 := Tryd.sizeOf178
  v60 := Tryd.zeroValue178
  i60 := by kernel_rfl
  t61 := Tryd.underlying179
  a61 := Tryd.isAgg179
  z61 := Tryd.sizeOf179
  t65 := Tryd.underlying198
  a65 := Tryd.isAgg198
  z65 := Tryd.sizeOf198
  v65 := Tryd.zeroValue198
  i65 := by kernel_rfl
  t66 := Tryd.underlying199
  a66 := Tryd.isAgg199
  z66 := Tryd.sizeOf199
  v66 := Tryd.zeroValue199
  i66 := by kernel_rfl
  t67 := Tryd.underlying172
  a67 := Tryd.isAgg172
  z67 := Tryd.sizeOf172
  v67 := Tryd.zeroValue172
  i67 := by kernel_rfl
  g0 := by kernel_rfl
  m0 := by kernel_rfl
  g1 := by kernel_rfl
  m1 := by kernel_rfl
  g2 := by kernel_rfl
  m2 := by kernel_rfl
  g3 := by kernel_rfl
  m3 := by kernel_rfl
  g4 := by kernel_rfl
  m4 := by kernel_rfl }
end Go.Proofs
end
section
/- strconv.ParseUint, as a row, by the library's contracts. By this session. -/
set_option linter.unusedVariables false
namespace Go.Proofs.YtbjajidphaeogaaDoor
open Go Go.Fw Go.RowKit Go.Shelf
def parseU (l : List UInt8) : Int × Bool := match Lib.parseUintB 64 l with
  | .ok u => ((u : Int), false)
  | .«syntax» => (0, true)
  | .range => (18446744073709551615, true)
abbrev strconv_ParseUint.As : Shs := .cons (.x .s) (.cons (.x (.i .i64)) (.cons (.x (.i .i64)) .nil))
abbrev strconv_ParseUint.m : Back := [(false, .i .u64), (false, .e)]
abbrev strconv_ParseUint.f (a : (ByteArray × (Int × Int))) : Option (Int × Bool) := bif decide (a.2.1 = 10) && decide (a.2.2 = 64) && decide (a.1.size ≤ 281474976710656) then some (parseU a.1.data.toList) else none
noncomputable abbrev strconv_ParseUint.row : Row := fnRow 72 strconv_ParseUint.As strconv_ParseUint.m strconv_ParseUint.f
theorem bytes_below (w : World) (t : TypeId) (s : ByteArray) : Below w.heap.size w (Lib.bytesWorld w t s) := by
  unfold Lib.bytesWorld World.freeze
  rw [if_neg (by decide)]
  refine ⟨rfl, rfl, rfl, by simp, fun k hk => ?_⟩
  show ((w.heap.push _).modify _ _)[k]? = _
  rw [Array.getElem?_modify, if_neg (by show ¬ w.heap.size = k; omega), Array.getElem?_push, if_neg (by omega)]
theorem strconv_ParseUint.row_ok : RowOK P G1 strconv_ParseUint.row := by
  have key : ∀ (ds : List D) (a : ByteArray × (Int × Int)) (q : Int × Bool), decArgs strconv_ParseUint.As ds = some a → strconv_ParseUint.f a = some q → Fw.Enters P 72 ∧ PCall P G1 72 ds (.tp [.i .u64 q.1, .er q.2]) := by
    intro ds a q ha hq
    refine ⟨ent_of Tryd.func72 (by kernel_rfl) (by kernel_rfl), ?_⟩
    have hds := (decArgs_argD ha).symm
    refine PCall.coe (ds' := argD strconv_ParseUint.As a) ?_ (by rw [← hds]; exact coeA_len) fun w I f hf => by rw [← hds]; exact coeA_rel hf
    refine pcall_below fun w I K vs hg hsz hr => ?_
    have h0 := hr 0 (.s a.1) rfl
    have h1 := hr 1 (.i .i64 a.2.1) rfl
    have h2 := hr 2 (.i .i64 a.2.2) rfl
    have hvs : vs = #[.string a.1, .int .i64 a.2.1, .int .i64 a.2.2] := by
      have hs : vs.size = 3 := hsz
      rw [Array.getD_eq_getD_getElem?, Array.getElem?_eq_getElem (by omega)] at h0 h1 h2
      simp only [Option.getD_some] at h0 h1 h2
      refine Array.ext (by simpa using hs) fun i hi hi' => ?_
      match i, hi with
      | 0, _ => cases h : vs[0] <;> rw [h] at h0 <;> cases h0; rfl
      | 1, _ => cases h : vs[1] <;> rw [h] at h1 <;> cases h1; rfl
      | 2, _ => cases h : vs[2] <;> rw [h] at h2 <;> cases h2; rfl
      | i + 3, hi => omega
    subst hvs
    unfold strconv_ParseUint.f at hq
    obtain ⟨hb, hq⟩ := cond_some hq
    simp only [Bool.and_eq_true, decide_eq_true_eq] at hb
    obtain ⟨⟨h3, h4⟩, h5⟩ := hb
    rw [h3, h4]
    injection hq with hq
    subst hq
    unfold parseU
    have tup : ∀ (w' : World) (n : Int) (b : Bool) (v : Value), RelD w' I (.er b) v → RelX w' I K (.tp [.i .u64 n, .er b]) (.tuple #[.int .u64 n, v]) := fun w' n b v hv => ⟨_, rfl, RelD.i .u64 n, ⟨hv, trivial, fun b h => by cases b <;> cases h⟩, fun b h => by cases h⟩
    cases hp : Lib.parseUintB 64 a.1.data.toList with
    | ok u =>
      refine (Any.strconv_ParseUint_10_at64_ok Tryd.laysPu14 a.1 (by omega) u hp w).mono ?_
      rintro e w' ⟨rfl, hw⟩
      refine ⟨_, rfl, ?_, tup w' u false _ .er0⟩
      rcases hw with rfl | rfl
      · exact .refl _ _
      · exact bytes_below _ _ _
    | «syntax» =>
      obtain ⟨tp, p, hv⟩ := err_of_glob (P := P) hg (g := 2) (name := "strconv.ErrSyntax") (by kernel_rfl) rfl
      refine (Any.strconv_ParseUint_10_at64_syntax_var Tryd.laysPu14 a.1 h5 hp tp p w hv).mono ?_
      rintro e w' ⟨N, rfl, _, _, hb⟩
      exact ⟨_, rfl, hb, tup w' 0 true _ (.er1 _ _)⟩
    | range =>
      obtain ⟨tp, p, hv⟩ := err_of_glob (P := P) hg (g := 3) (name := "strconv.ErrRange") (by kernel_rfl) rfl
      refine (Any.strconv_ParseUint_10_at64_range_var Tryd.laysPu14 a.1 h5 hp tp p w hv).mono ?_
      rintro e w' ⟨N, rfl, _, _, hb⟩
      exact ⟨_, rfl, hb, tup w' 18446744073709551615 true _ (.er1 _ _)⟩
  exact fun ds a q => key ds a q
end Go.Proofs.YtbjajidphaeogaaDoor
end
section
/- The Go function money.size, as a Lean function, and that it is this one. Written by a program of this session. -/
set_option linter.unusedVariables false
set_option maxRecDepth 100000
namespace Go.Proofs.YtbjajidphaeogaaDoor
open Go Go.Fw
abbrev money_size.As : Shs := (.cons (.x (.i .i64)) .nil)
abbrev money_size.m : Back := [(false, (.i .u64))]
noncomputable abbrev money_size.H : HK := hk P G0 E0 [] noLoops 4
theorem money_size.hok : HKOK P money_size.H := hk_ok e0_ok (rows_ok (ws := []) trivial) (fun g n => noLoops_ok g n) 4
noncomputable def money_size.f (a : Int) : Option Int := (bif (decide ((a < (0 : Int)))) then (some (IntKind.wrap .u64 ((0 : Int) - (IntKind.wrap .u64 a)))) else (some (IntKind.wrap .u64 a)))
theorem money_size.ok : ∀ a : Vals money_size.As.tys, fnK P money_size.H (lp []) 55 money_size.As money_size.m a some = money_size.f a := fun a => by kernel_rfl
noncomputable abbrev money_size.row : Row := fnRow 55 money_size.As money_size.m money_size.f
theorem money_size.row_ok : RowOK P G0 money_size.row := row_told money_size.hok (lp_of (l := []) trivial) (fun _ => rfl) money_size.ok
end Go.Proofs.YtbjajidphaeogaaDoor
end
section
/- The Go function money.Text, as a Lean function, and that it is this one. Written by a program of this session. -/
set_option linter.unusedVariables false
set_option maxRecDepth 100000
namespace Go.Proofs.YtbjajidphaeogaaDoor
open Go Go.Fw
abbrev money_Text.As : Shs := (.cons (.x (.i .i64)) .nil)
abbrev money_Text.m : Back := [(false, .s)]
noncomputable abbrev money_Text.H : HK := hk P G0 E0 [money_size.row, strconv_FormatUint.row] noLoops 4
theorem money_Text.hok : HKOK P money_Text.H := hk_ok e0_ok (rows_ok (ws := [money_size.row, strconv_FormatUint.row]) ⟨money_size.row_ok, ⟨strconv_FormatUint.row_ok, trivial⟩⟩) (fun g n => noLoops_ok g n) 4
noncomputable def money_Text.f (a : Int) : Option ByteArray := (bif (decide ((a < (0 : Int)))) then (((money_size.f a)).bind fun (x1 : Int) => (((strconv_FormatUint.f ((IntKind.wrap .u64 ((Int.tmod x1 (100 : Int)) + (100 : Int))), (10 : Int)))).bind fun (x2 : ByteArray) => (((strconv_FormatUint.f ((IntKind.wrap .u64 (Int.tdiv x1 (100 : Int))), (10 : Int)))).bind fun (x3 : ByteArray) => (bif (Nat.ble (1 + x3.size) 9223372036854775807) then (bif (Nat.ble (((bs [45]) ++ x3).size + 1) 9223372036854775807) then (bif (true && (decide (((1 : Int) ≤ (x2.size : Int))))) then (bif (Nat.ble ((((bs [45]) ++ x3) ++ (bs [46])).size + (ByteArray.extract x2 1 x2.size).size) 9223372036854775807) then (some ((((bs [45]) ++ x3) ++ (bs [46])) ++ (ByteArray.extract x2 1 x2.size))) else none) else none) else none) else none)))) else (((money_size.f a)).bind fun (x1 : Int) => (((strconv_FormatUint.f ((IntKind.wrap .u64 ((Int.tmod x1 (100 : Int)) + (100 : Int))), (10 : Int)))).bind fun (x2 : ByteArray) => (((strconv_FormatUint.f ((IntKind.wrap .u64 (Int.tdiv x1 (100 : Int))), (10 : Int)))).bind fun (x3 : ByteArray) => (bif (Nat.ble (0 + x3.size) 9223372036854775807) then (bif (Nat.ble (((bs []) ++ x3).size + 1) 9223372036854775807) then (bif (true && (decide (((1 : Int) ≤ (x2.size : Int))))) then (bif (Nat.ble ((((bs []) ++ x3) ++ (bs [46])).size + (ByteArray.extract x2 1 x2.size).size) 9223372036854775807) then (some ((((bs []) ++ x3) ++ (bs [46])) ++ (ByteArray.extract x2 1 x2.size))) else none) else none) else none) else none)))))
theorem money_Text.ok : ∀ a : Vals money_Text.As.tys, fnK P money_Text.H (lp []) 37 money_Text.As money_Text.m a some = money_Text.f a := fun a => by kernel_rfl
noncomputable abbrev money_Text.row : Row := fnRow 37 money_Text.As money_Text.m money_Text.f
theorem money_Text.row_ok : RowOK P G0 money_Text.row := row_told money_Text.hok (lp_of (l := []) trivial) (fun _ => rfl) money_Text.ok
end Go.Proofs.YtbjajidphaeogaaDoor
end
section
/- The Go function money.signed, as a Lean function, and that it is this one. Written by a program of this session. -/
set_option linter.unusedVariables false
set_option maxRecDepth 100000
namespace Go.Proofs.YtbjajidphaeogaaDoor
open Go Go.Fw
abbrev money_signed.As : Shs := (.cons (.x (.i .u64)) (.cons (.x .b) .nil))
abbrev money_signed.m : Back := [(false, (.i .i64)), (false, (.i .i64))]
noncomputable abbrev money_signed.H : HK := hk P G0 E0 [] noLoops 4
theorem money_signed.hok : HKOK P money_signed.H := hk_ok e0_ok (rows_ok (ws := []) trivial) (fun g n => noLoops_ok g n) 4
noncomputable def money_signed.f (a : (Int × Bool)) : Option (Int × Int) := (bif a.2 then (bif (decide ((a.1 ≤ (9223372036854775808 : Int)))) then (some ((IntKind.wrap .i64 (IntKind.wrap .u64 ((0 : Int) - a.1))), (0 : Int))) else (bif (!a.2) then (bif (decide ((a.1 ≤ (9223372036854775807 : Int)))) then (some ((IntKind.wrap .i64 a.1), (0 : Int))) else (some ((0 : Int), (2 : Int)))) else (some ((0 : Int), (2 : Int))))) else (bif (!a.2) then (bif (decide ((a.1 ≤ (9223372036854775807 : Int)))) then (some ((IntKind.wrap .i64 a.1), (0 : Int))) else (some ((0 : Int), (2 : Int)))) else (some ((0 : Int), (2 : Int)))))
theorem money_signed.ok : ∀ a : Vals money_signed.As.tys, fnK P money_signed.H (lp []) 56 money_signed.As money_signed.m a some = money_signed.f a := fun a => by kernel_rfl
noncomputable abbrev money_signed.row : Row := fnRow 56 money_signed.As money_signed.m money_signed.f
theorem money_signed.row_ok : RowOK P G0 money_signed.row := row_told money_signed.hok (lp_of (l := []) trivial) (fun _ => rfl) money_signed.ok
end Go.Proofs.YtbjajidphaeogaaDoor
end
section
/- The Go function money.Parse, as a Lean function, and that it is this one. Written by a program of this session. -/
set_option linter.unusedVariables false
set_option maxRecDepth 100000
namespace Go.Proofs.YtbjajidphaeogaaDoor
open Go Go.Fw
abbrev money_Parse.As : Shs := (.cons (.x .s) .nil)
abbrev money_Parse.m : Back := [(false, (.i .i64)), (false, (.i .i64))]
noncomputable abbrev money_Parse.H : HK := hk P G1 E0 [money_Text.row, money_signed.row, strconv_ParseUint.row] noLoops 4
theorem money_Parse.hok : HKOK P money_Parse.H := hk_ok e0_ok (rows_ok (ws := [money_Text.row, money_signed.row, strconv_ParseUint.row]) ⟨(money_Text.row_ok.more g01), ⟨(money_signed.row_ok.more g01), ⟨strconv_ParseUint.row_ok, trivial⟩⟩⟩) (fun g n => noLoops_ok g n) 4
noncomputable def money_Parse.f (a : ByteArray) : Option (Int × Int) := (bif (decide (((a.size : Int) ≥ (1 : Int)))) then (bif (true && (decide (((1 : Int) ≤ (a.size : Int))))) then (bif (!((ByteArray.toList (ByteArray.extract a 0 1)) == (ByteArray.toList (bs [45])))) then (bif ((ByteArray.toList (bs [46])) == (ByteArray.toList a)) then (bif (true && (decide (((1 : Int) ≤ (a.size : Int))))) then (bif (Nat.ble ((ByteArray.extract a 0 0).size + (ByteArray.extract a 1 a.size).size) 9223372036854775807) then (((strconv_ParseUint.f (((ByteArray.extract a 0 0) ++ (ByteArray.extract a 1 a.size)), ((10 : Int), (64 : Int))))).bind fun (x1 : (Int × Bool)) => (bif (!(!x1.2)) then (some ((0 : Int), (4 : Int))) else (((money_signed.f (x1.1, false))).bind fun (x2 : (Int × Int)) => (bif (x2.2 != (0 : Int)) then (some ((0 : Int), (4 : Int))) else (((money_Text.f x2.1)).bind fun (x3 : ByteArray) => (bif (!((ByteArray.toList x3) == (ByteArray.toList a))) then (some ((0 : Int), (4 : Int))) else (some (x2.1, (0 : Int))))))))) else none) else none) else (bif (decide (((Go.Lib.indexByte (Array.toList (ByteArray.data a)) (46 : UInt8)) ≥ (0 : Int)))) then (bif ((decide (((0 : Int) ≤ (Go.Lib.indexByte (Array.toList (ByteArray.data a)) (46 : UInt8))))) && (decide (((Go.Lib.indexByte (Array.toList (ByteArray.data a)) (46 : UInt8)) ≤ (a.size : Int))))) then (bif ((decide (((0 : Int) ≤ (IntKind.wrap .i64 ((Go.Lib.indexByte (Array.toList (ByteArray.data a)) (46 : UInt8)) + (1 : Int)))))) && (decide (((IntKind.wrap .i64 ((Go.Lib.indexByte (Array.toList (ByteArray.data a)) (46 : UInt8)) + (1 : Int))) ≤ (a.size : Int))))) then (bif (Nat.ble ((ByteArray.extract a 0 (Int.toNat (Go.Lib.indexByte (Array.toList (ByteArray.data a)) (46 : UInt8)))).size + (ByteArray.extract a (Int.toNat (IntKind.wrap .i64 ((Go.Lib.indexByte (Array.toList (ByteArray.data a)) (46 : UInt8)) + (1 : Int)))) a.size).size) 9223372036854775807) then (((strconv_ParseUint.f (((ByteArray.extract a 0 (Int.toNat (Go.Lib.indexByte (Array.toList (ByteArray.data a)) (46 : UInt8)))) ++ (ByteArray.extract a (Int.toNat (IntKind.wrap .i64 ((Go.Lib.indexByte (Array.toList (ByteArray.data a)) (46 : UInt8)) + (1 : Int)))) a.size)), ((10 : Int), (64 : Int))))).bind fun (x1 : (Int × Bool)) => (bif (!(!x1.2)) then (some ((0 : Int), (4 : Int))) else (((money_signed.f (x1.1, false))).bind fun (x2 : (Int × Int)) => (bif (x2.2 != (0 : Int)) then (some ((0 : Int), (4 : Int))) else (((money_Text.f x2.1)).bind fun (x3 : ByteArray) => (bif (!((ByteArray.toList x3) == (ByteArray.toList a))) then (some ((0 : Int), (4 : Int))) else (some (x2.1, (0 : Int))))))))) else none) else none) else none) else (bif (Nat.ble (a.size + 0) 9223372036854775807) then (((strconv_ParseUint.f ((a ++ (bs [])), ((10 : Int), (64 : Int))))).bind fun (x1 : (Int × Bool)) => (bif (!(!x1.2)) then (some ((0 : Int), (4 : Int))) else (((money_signed.f (x1.1, false))).bind fun (x2 : (Int × Int)) => (bif (x2.2 != (0 : Int)) then (some ((0 : Int), (4 : Int))) else (((money_Text.f x2.1)).bind fun (x3 : ByteArray) => (bif (!((ByteArray.toList x3) == (ByteArray.toList a))) then (some ((0 : Int), (4 : Int))) else (some (x2.1, (0 : Int))))))))) else none))) else (bif (true && (decide (((1 : Int) ≤ (a.size : Int))))) then (bif ((ByteArray.toList (bs [46])) == (ByteArray.toList (ByteArray.extract a 1 a.size))) then (bif (true && (decide (((1 : Int) ≤ ((ByteArray.extract a 1 a.size).size : Int))))) then (bif (Nat.ble ((ByteArray.extract (ByteArray.extract a 1 a.size) 0 0).size + (ByteArray.extract (ByteArray.extract a 1 a.size) 1 (ByteArray.extract a 1 a.size).size).size) 9223372036854775807) then (((strconv_ParseUint.f (((ByteArray.extract (ByteArray.extract a 1 a.size) 0 0) ++ (ByteArray.extract (ByteArray.extract a 1 a.size) 1 (ByteArray.extract a 1 a.size).size)), ((10 : Int), (64 : Int))))).bind fun (x1 : (Int × Bool)) => (bif (!(!x1.2)) then (some ((0 : Int), (4 : Int))) else (((money_signed.f (x1.1, true))).bind fun (x2 : (Int × Int)) => (bif (x2.2 != (0 : Int)) then (some ((0 : Int), (4 : Int))) else (((money_Text.f x2.1)).bind fun (x3 : ByteArray) => (bif (!((ByteArray.toList x3) == (ByteArray.toList a))) then (some ((0 : Int), (4 : Int))) else (some (x2.1, (0 : Int))))))))) else none) else none) else (bif (decide (((Go.Lib.indexByte (Array.toList (ByteArray.data (ByteArray.extract a 1 a.size))) (46 : UInt8)) ≥ (0 : Int)))) then (bif ((decide (((0 : Int) ≤ (Go.Lib.indexByte (Array.toList (ByteArray.data (ByteArray.extract a 1 a.size))) (46 : UInt8))))) && (decide (((Go.Lib.indexByte (Array.toList (ByteArray.data (ByteArray.extract a 1 a.size))) (46 : UInt8)) ≤ ((ByteArray.extract a 1 a.size).size : Int))))) then (bif ((decide (((0 : Int) ≤ (IntKind.wrap .i64 ((Go.Lib.indexByte (Array.toList (ByteArray.data (ByteArray.extract a 1 a.size))) (46 : UInt8)) + (1 : Int)))))) && (decide (((IntKind.wrap .i64 ((Go.Lib.indexByte (Array.toList (ByteArray.data (ByteArray.extract a 1 a.size))) (46 : UInt8)) + (1 : Int))) ≤ ((ByteArray.extract a 1 a.size).size : Int))))) then (bif (Nat.ble ((ByteArray.extract (ByteArray.extract a 1 a.size) 0 (Int.toNat (Go.Lib.indexByte (Array.toList (ByteArray.data (ByteArray.extract a 1 a.size))) (46 : UInt8)))).size + (ByteArray.extract (ByteArray.extract a 1 a.size) (Int.toNat (IntKind.wrap .i64 ((Go.Lib.indexByte (Array.toList (ByteArray.data (ByteArray.extract a 1 a.size))) (46 : UInt8)) + (1 : Int)))) (ByteArray.extract a 1 a.size).size).size) 9223372036854775807) then (((strconv_ParseUint.f (((ByteArray.extract (ByteArray.extract a 1 a.size) 0 (Int.toNat (Go.Lib.indexByte (Array.toList (ByteArray.data (ByteArray.extract a 1 a.size))) (46 : UInt8)))) ++ (ByteArray.extract (ByteArray.extract a 1 a.size) (Int.toNat (IntKind.wrap .i64 ((Go.Lib.indexByte (Array.toList (ByteArray.data (ByteArray.extract a 1 a.size))) (46 : UInt8)) + (1 : Int)))) (ByteArray.extract a 1 a.size).size)), ((10 : Int), (64 : Int))))).bind fun (x1 : (Int × Bool)) => (bif (!(!x1.2)) then (some ((0 : Int), (4 : Int))) else (((money_signed.f (x1.1, true))).bind fun (x2 : (Int × Int)) => (bif (x2.2 != (0 : Int)) then (some ((0 : Int), (4 : Int))) else (((money_Text.f x2.1)).bind fun (x3 : ByteArray) => (bif (!((ByteArray.toList x3) == (ByteArray.toList a))) then (some ((0 : Int), (4 : Int))) else (some (x2.1, (0 : Int))))))))) else none) else none) else none) else (bif (Nat.ble ((ByteArray.extract a 1 a.size).size + 0) 9223372036854775807) then (((strconv_ParseUint.f (((ByteArray.extract a 1 a.size) ++ (bs [])), ((10 : Int), (64 : Int))))).bind fun (x1 : (Int × Bool)) => (bif (!(!x1.2)) then (some ((0 : Int), (4 : Int))) else (((money_signed.f (x1.1, true))).bind fun (x2 : (Int × Int)) => (bif (x2.2 != (0 : Int)) then (some ((0 : Int), (4 : Int))) else (((money_Text.f x2.1)).bind fun (x3 : ByteArray) => (bif (!((ByteArray.toList x3) == (ByteArray.toList a))) then (some ((0 : Int), (4 : Int))) else (some (x2.1, (0 : Int))))))))) else none))) else none)) else none) else (bif ((ByteArray.toList (bs [46])) == (ByteArray.toList a)) then (bif (true && (decide (((1 : Int) ≤ (a.size : Int))))) then (bif (Nat.ble ((ByteArray.extract a 0 0).size + (ByteArray.extract a 1 a.size).size) 9223372036854775807) then (((strconv_ParseUint.f (((ByteArray.extract a 0 0) ++ (ByteArray.extract a 1 a.size)), ((10 : Int), (64 : Int))))).bind fun (x1 : (Int × Bool)) => (bif (!(!x1.2)) then (some ((0 : Int), (4 : Int))) else (((money_signed.f (x1.1, false))).bind fun (x2 : (Int × Int)) => (bif (x2.2 != (0 : Int)) then (some ((0 : Int), (4 : Int))) else (((money_Text.f x2.1)).bind fun (x3 : ByteArray) => (bif (!((ByteArray.toList x3) == (ByteArray.toList a))) then (some ((0 : Int), (4 : Int))) else (some (x2.1, (0 : Int))))))))) else none) else none) else (bif (decide (((Go.Lib.indexByte (Array.toList (ByteArray.data a)) (46 : UInt8)) ≥ (0 : Int)))) then (bif ((decide (((0 : Int) ≤ (Go.Lib.indexByte (Array.toList (ByteArray.data a)) (46 : UInt8))))) && (decide (((Go.Lib.indexByte (Array.toList (ByteArray.data a)) (46 : UInt8)) ≤ (a.size : Int))))) then (bif ((decide (((0 : Int) ≤ (IntKind.wrap .i64 ((Go.Lib.indexByte (Array.toList (ByteArray.data a)) (46 : UInt8)) + (1 : Int)))))) && (decide (((IntKind.wrap .i64 ((Go.Lib.indexByte (Array.toList (ByteArray.data a)) (46 : UInt8)) + (1 : Int))) ≤ (a.size : Int))))) then (bif (Nat.ble ((ByteArray.extract a 0 (Int.toNat (Go.Lib.indexByte (Array.toList (ByteArray.data a)) (46 : UInt8)))).size + (ByteArray.extract a (Int.toNat (IntKind.wrap .i64 ((Go.Lib.indexByte (Array.toList (ByteArray.data a)) (46 : UInt8)) + (1 : Int)))) a.size).size) 9223372036854775807) then (((strconv_ParseUint.f (((ByteArray.extract a 0 (Int.toNat (Go.Lib.indexByte (Array.toList (ByteArray.data a)) (46 : UInt8)))) ++ (ByteArray.extract a (Int.toNat (IntKind.wrap .i64 ((Go.Lib.indexByte (Array.toList (ByteArray.data a)) (46 : UInt8)) + (1 : Int)))) a.size)), ((10 : Int), (64 : Int))))).bind fun (x1 : (Int × Bool)) => (bif (!(!x1.2)) then (some ((0 : Int), (4 : Int))) else (((money_signed.f (x1.1, false))).bind fun (x2 : (Int × Int)) => (bif (x2.2 != (0 : Int)) then (some ((0 : Int), (4 : Int))) else (((money_Text.f x2.1)).bind fun (x3 : ByteArray) => (bif (!((ByteArray.toList x3) == (ByteArray.toList a))) then (some ((0 : Int), (4 : Int))) else (some (x2.1, (0 : Int))))))))) else none) else none) else none) else (bif (Nat.ble (a.size + 0) 9223372036854775807) then (((strconv_ParseUint.f ((a ++ (bs [])), ((10 : Int), (64 : Int))))).bind fun (x1 : (Int × Bool)) => (bif (!(!x1.2)) then (some ((0 : Int), (4 : Int))) else (((money_signed.f (x1.1, false))).bind fun (x2 : (Int × Int)) => (bif (x2.2 != (0 : Int)) then (some ((0 : Int), (4 : Int))) else (((money_Text.f x2.1)).bind fun (x3 : ByteArray) => (bif (!((ByteArray.toList x3) == (ByteArray.toList a))) then (some ((0 : Int), (4 : Int))) else (some (x2.1, (0 : Int))))))))) else none))))
theorem money_Parse.ok : ∀ a : Vals money_Parse.As.tys, fnK P money_Parse.H (lp []) 38 money_Parse.As money_Parse.m a some = money_Parse.f a := fun a => by kernel_rfl
noncomputable abbrev money_Parse.row : Row := fnRow 38 money_Parse.As money_Parse.m money_Parse.f
theorem money_Parse.row_ok : RowOK P G1 money_Parse.row := row_told money_Parse.hok (lp_of (l := []) trivial) (fun _ => rfl) money_Parse.ok
end Go.Proofs.YtbjajidphaeogaaDoor
end
section
/- The Go function bursarref01.Text, as a Lean function, and that it is this one. Written by a program of this session. -/
set_option linter.unusedVariables false
set_option maxRecDepth 100000
namespace Go.Proofs.YtbjajidphaeogaaDoor
open Go Go.Fw
abbrev bursarref01_Text.As : Shs := (.cons (.x (.i .i64)) .nil)
abbrev bursarref01_Text.m : Back := [(false, .s)]
noncomputable abbrev bursarref01_Text.H : HK := hk P G0 E0 [] noLoops 4
theorem bursarref01_Text.hok : HKOK P bursarref01_Text.H := hk_ok e0_ok (rows_ok (ws := []) trivial) (fun g n => noLoops_ok g n) 4
abbrev bursarref01_Text.sh9 : SSh := ⟨[(0, (.x (.i .i64))), (3, (.x .s)), (4, (.x .s)), (5, (.x (.i .i64)))], []⟩
abbrev bursarref01_Text.os9 : PEnds := [((.exit 0), ⟨[(3, (.x .s)), (4, (.x .s))], []⟩)]
noncomputable def bursarref01_Text.t9 (s : (Int × (ByteArray × (ByteArray × Int)))) : Option ((Int × (ByteArray × (ByteArray × Int))) ⊕ ((ByteArray × ByteArray))) := (bif (decide ((s.2.2.2 < (3 : Int)))) then (bif (s.2.2.2 == (2 : Int)) then (bif (Nat.ble (1 + s.2.2.1.size) 9223372036854775807) then (bif (Nat.ble ((ByteArray.mk (List.toArray (List.map (fun y4 => (UInt8.ofNat (Int.toNat y4))) ((IntKind.wrap .u8 (IntKind.wrap .i64 ((48 : Int) - (Int.tmod s.1 (10 : Int))))) :: [])))).size + ((bs [46]) ++ s.2.2.1).size) 9223372036854775807) then (some (.inl ((IntKind.wrap .i64 (Int.tdiv s.1 (10 : Int))), (s.2.1, (((ByteArray.mk (List.toArray (List.map (fun y4 => (UInt8.ofNat (Int.toNat y4))) ((IntKind.wrap .u8 (IntKind.wrap .i64 ((48 : Int) - (Int.tmod s.1 (10 : Int))))) :: [])))) ++ ((bs [46]) ++ s.2.2.1)), (IntKind.wrap .i64 (s.2.2.2 + (1 : Int)))))))) else none) else none) else (bif (Nat.ble ((ByteArray.mk (List.toArray (List.map (fun y4 => (UInt8.ofNat (Int.toNat y4))) ((IntKind.wrap .u8 (IntKind.wrap .i64 ((48 : Int) - (Int.tmod s.1 (10 : Int))))) :: [])))).size + s.2.2.1.size) 9223372036854775807) then (some (.inl ((IntKind.wrap .i64 (Int.tdiv s.1 (10 : Int))), (s.2.1, (((ByteArray.mk (List.toArray (List.map (fun y4 => (UInt8.ofNat (Int.toNat y4))) ((IntKind.wrap .u8 (IntKind.wrap .i64 ((48 : Int) - (Int.tmod s.1 (10 : Int))))) :: [])))) ++ s.2.2.1), (IntKind.wrap .i64 (s.2.2.2 + (1 : Int)))))))) else none)) else (bif (decide ((s.1 < (0 : Int)))) then (bif (s.2.2.2 == (2 : Int)) then (bif (Nat.ble (1 + s.2.2.1.size) 9223372036854775807) then (bif (Nat.ble ((ByteArray.mk (List.toArray (List.map (fun y4 => (UInt8.ofNat (Int.toNat y4))) ((IntKind.wrap .u8 (IntKind.wrap .i64 ((48 : Int) - (Int.tmod s.1 (10 : Int))))) :: [])))).size + ((bs [46]) ++ s.2.2.1).size) 9223372036854775807) then (some (.inl ((IntKind.wrap .i64 (Int.tdiv s.1 (10 : Int))), (s.2.1, (((ByteArray.mk (List.toArray (List.map (fun y4 => (UInt8.ofNat (Int.toNat y4))) ((IntKind.wrap .u8 (IntKind.wrap .i64 ((48 : Int) - (Int.tmod s.1 (10 : Int))))) :: [])))) ++ ((bs [46]) ++ s.2.2.1)), (IntKind.wrap .i64 (s.2.2.2 + (1 : Int)))))))) else none) else none) else (bif (Nat.ble ((ByteArray.mk (List.toArray (List.map (fun y4 => (UInt8.ofNat (Int.toNat y4))) ((IntKind.wrap .u8 (IntKind.wrap .i64 ((48 : Int) - (Int.tmod s.1 (10 : Int))))) :: [])))).size + s.2.2.1.size) 9223372036854775807) then (some (.inl ((IntKind.wrap .i64 (Int.tdiv s.1 (10 : Int))), (s.2.1, (((ByteArray.mk (List.toArray (List.map (fun y4 => (UInt8.ofNat (Int.toNat y4))) ((IntKind.wrap .u8 (IntKind.wrap .i64 ((48 : Int) - (Int.tmod s.1 (10 : Int))))) :: [])))) ++ s.2.2.1), (IntKind.wrap .i64 (s.2.2.2 + (1 : Int)))))))) else none)) else (some (.inr (s.2.1, s.2.2.1)))))
theorem bursarref01_Text.t9_ok : ∀ s : Vals bursarref01_Text.sh9.tys, turnK P bursarref01_Text.H (lp []) (bodyAt (codeOf P 40) 9) 0 bursarref01_Text.sh9 bursarref01_Text.os9 s some = bursarref01_Text.t9 s := fun s => by kernel_rfl
noncomputable def bursarref01_Text.l9 : (Int × (ByteArray × (ByteArray × Int))) → Option ((ByteArray × ByteArray)) := rounds bursarref01_Text.t9
noncomputable def bursarref01_Text.f (a : Int) : Option ByteArray := (bif (decide ((a ≥ (0 : Int)))) then (((bursarref01_Text.l9 ((IntKind.wrap .i64 ((0 : Int) - a)), ((bs []), ((bs []), (0 : Int)))))).bind fun (x1 : (ByteArray × ByteArray)) => (bif (Nat.ble (x1.1.size + x1.2.size) 9223372036854775807) then (some (x1.1 ++ x1.2)) else none)) else (((bursarref01_Text.l9 (a, ((bs [45]), ((bs []), (0 : Int)))))).bind fun (x1 : (ByteArray × ByteArray)) => (bif (Nat.ble (x1.1.size + x1.2.size) 9223372036854775807) then (some (x1.1 ++ x1.2)) else none)))
theorem bursarref01_Text.ok : ∀ a : Vals bursarref01_Text.As.tys, fnK P bursarref01_Text.H (lp [(9, NodeT.summ ⟨bursarref01_Text.sh9, bursarref01_Text.os9, bursarref01_Text.l9⟩ 0)]) 40 bursarref01_Text.As bursarref01_Text.m a some = bursarref01_Text.f a := fun a => by kernel_rfl
noncomputable abbrev bursarref01_Text.row : Row := fnRow 40 bursarref01_Text.As bursarref01_Text.m bursarref01_Text.f
theorem bursarref01_Text.row_ok : RowOK P G0 bursarref01_Text.row := row_told bursarref01_Text.hok (lp_of (l := [(9, NodeT.summ ⟨bursarref01_Text.sh9, bursarref01_Text.os9, bursarref01_Text.l9⟩ 0)]) ⟨loop_sum bursarref01_Text.hok (by kernel_rfl) (by kernel_rfl) (l := []) trivial bursarref01_Text.sh9 bursarref01_Text.os9 (by kernel_rfl) bursarref01_Text.t9 bursarref01_Text.t9_ok, trivial⟩) (fun _ => rfl) bursarref01_Text.ok
end Go.Proofs.YtbjajidphaeogaaDoor
end
section
/- The Go function bursarref01.Parse, as a Lean function, and that it is this one. Written by a program of this session. -/
set_option linter.unusedVariables false
set_option maxRecDepth 100000
namespace Go.Proofs.YtbjajidphaeogaaDoor
open Go Go.Fw
abbrev bursarref01_Parse.As : Shs := (.cons (.x .s) .nil)
abbrev bursarref01_Parse.m : Back := [(false, (.i .i64)), (false, .b)]
noncomputable abbrev bursarref01_Parse.H : HK := hk P G0 E0 [bursarref01_Text.row] noLoops 4
theorem bursarref01_Parse.hok : HKOK P bursarref01_Parse.H := hk_ok e0_ok (rows_ok (ws := [bursarref01_Text.row]) ⟨bursarref01_Text.row_ok, trivial⟩) (fun g n => noLoops_ok g n) 4
abbrev bursarref01_Parse.sh9 : SSh := ⟨[(0, (.x .s)), (4, (.x .b)), (6, (.x (.i .i64))), (7, (.x (.i .i64)))], []⟩
abbrev bursarref01_Parse.os9 : PEnds := [(.ret, ⟨[(2, (.x (.i .i64))), (3, (.x .b))], []⟩), ((.exit 0), ⟨[(0, (.x .s)), (4, (.x .b)), (6, (.x (.i .i64)))], []⟩)]
noncomputable def bursarref01_Parse.t9 (s : (ByteArray × (Bool × (Int × Int)))) : Option ((ByteArray × (Bool × (Int × Int))) ⊕ ((Int × Bool) ⊕ (ByteArray × (Bool × Int)))) := (bif (decide ((s.2.2.2 < (s.1.size : Int)))) then (bif (s.2.2.2 == (IntKind.wrap .i64 ((s.1.size : Int) - (3 : Int)))) then (bif ((decide (((0 : Int) ≤ s.2.2.2))) && (decide ((s.2.2.2 < (s.1.size : Int))))) then (bif ((bt s.1 (Int.toNat s.2.2.2)) == (46 : Int)) then (some (.inl (s.1, (s.2.1, (s.2.2.1, (IntKind.wrap .i64 (s.2.2.2 + (1 : Int)))))))) else (bif ((decide (((0 : Int) ≤ s.2.2.2))) && (decide ((s.2.2.2 < (s.1.size : Int))))) then (bif (decide (((bt s.1 (Int.toNat s.2.2.2)) < (48 : Int)))) then (some (.inr (.inl ((0 : Int), false)))) else (bif ((decide (((0 : Int) ≤ s.2.2.2))) && (decide ((s.2.2.2 < (s.1.size : Int))))) then (bif (decide (((bt s.1 (Int.toNat s.2.2.2)) > (57 : Int)))) then (some (.inr (.inl ((0 : Int), false)))) else (bif ((decide (((0 : Int) ≤ s.2.2.2))) && (decide ((s.2.2.2 < (s.1.size : Int))))) then (bif (decide ((s.2.2.1 < (-922337203685477580 : Int)))) then (some (.inr (.inl ((0 : Int), false)))) else (bif (s.2.2.1 == (-922337203685477580 : Int)) then (bif (decide (((IntKind.wrap .i64 ((IntKind.wrap .i64 (bt s.1 (Int.toNat s.2.2.2))) - (48 : Int))) > (8 : Int)))) then (some (.inr (.inl ((0 : Int), false)))) else (some (.inl (s.1, (s.2.1, ((IntKind.wrap .i64 ((IntKind.wrap .i64 ((10 : Int) * s.2.2.1)) - (IntKind.wrap .i64 ((IntKind.wrap .i64 (bt s.1 (Int.toNat s.2.2.2))) - (48 : Int))))), (IntKind.wrap .i64 (s.2.2.2 + (1 : Int))))))))) else (some (.inl (s.1, (s.2.1, ((IntKind.wrap .i64 ((IntKind.wrap .i64 ((10 : Int) * s.2.2.1)) - (IntKind.wrap .i64 ((IntKind.wrap .i64 (bt s.1 (Int.toNat s.2.2.2))) - (48 : Int))))), (IntKind.wrap .i64 (s.2.2.2 + (1 : Int)))))))))) else none)) else none)) else none)) else none) else (bif ((decide (((0 : Int) ≤ s.2.2.2))) && (decide ((s.2.2.2 < (s.1.size : Int))))) then (bif (decide (((bt s.1 (Int.toNat s.2.2.2)) < (48 : Int)))) then (some (.inr (.inl ((0 : Int), false)))) else (bif ((decide (((0 : Int) ≤ s.2.2.2))) && (decide ((s.2.2.2 < (s.1.size : Int))))) then (bif (decide (((bt s.1 (Int.toNat s.2.2.2)) > (57 : Int)))) then (some (.inr (.inl ((0 : Int), false)))) else (bif ((decide (((0 : Int) ≤ s.2.2.2))) && (decide ((s.2.2.2 < (s.1.size : Int))))) then (bif (decide ((s.2.2.1 < (-922337203685477580 : Int)))) then (some (.inr (.inl ((0 : Int), false)))) else (bif (s.2.2.1 == (-922337203685477580 : Int)) then (bif (decide (((IntKind.wrap .i64 ((IntKind.wrap .i64 (bt s.1 (Int.toNat s.2.2.2))) - (48 : Int))) > (8 : Int)))) then (some (.inr (.inl ((0 : Int), false)))) else (some (.inl (s.1, (s.2.1, ((IntKind.wrap .i64 ((IntKind.wrap .i64 ((10 : Int) * s.2.2.1)) - (IntKind.wrap .i64 ((IntKind.wrap .i64 (bt s.1 (Int.toNat s.2.2.2))) - (48 : Int))))), (IntKind.wrap .i64 (s.2.2.2 + (1 : Int))))))))) else (some (.inl (s.1, (s.2.1, ((IntKind.wrap .i64 ((IntKind.wrap .i64 ((10 : Int) * s.2.2.1)) - (IntKind.wrap .i64 ((IntKind.wrap .i64 (bt s.1 (Int.toNat s.2.2.2))) - (48 : Int))))), (IntKind.wrap .i64 (s.2.2.2 + (1 : Int)))))))))) else none)) else none)) else none)) else (some (.inr (.inr (s.1, (s.2.1, s.2.2.1))))))
theorem bursarref01_Parse.t9_ok : ∀ s : Vals bursarref01_Parse.sh9.tys, turnK P bursarref01_Parse.H (lp []) (bodyAt (codeOf P 39) 9) 0 bursarref01_Parse.sh9 bursarref01_Parse.os9 s some = bursarref01_Parse.t9 s := fun s => by kernel_rfl
noncomputable def bursarref01_Parse.l9 : (ByteArray × (Bool × (Int × Int))) → Option ((Int × Bool) ⊕ (ByteArray × (Bool × Int))) := rounds bursarref01_Parse.t9
noncomputable def bursarref01_Parse.f (a : ByteArray) : Option (Int × Bool) := (bif (decide (((a.size : Int) > (0 : Int)))) then (bif (true && (decide (((0 : Int) < (a.size : Int))))) then (bif ((bt a 0) == (45 : Int)) then (((bursarref01_Parse.l9 (a, (((bt a 0) == (45 : Int)), ((0 : Int), (1 : Int)))))).bind fun (x1 : ((Int × Bool) ⊕ (ByteArray × (Bool × Int)))) => (match x1 with | .inl x2 => (some x2) | .inr x2 => (bif (!x2.2.1) then (bif (x2.2.2 == (-9223372036854775808 : Int)) then (some ((0 : Int), false)) else (((bursarref01_Text.f (IntKind.wrap .i64 ((0 : Int) - x2.2.2)))).bind fun (x3 : ByteArray) => (some ((IntKind.wrap .i64 ((0 : Int) - x2.2.2)), ((ByteArray.toList x3) == (ByteArray.toList x2.1)))))) else (((bursarref01_Text.f x2.2.2)).bind fun (x3 : ByteArray) => (some (x2.2.2, ((ByteArray.toList x3) == (ByteArray.toList x2.1)))))))) else (((bursarref01_Parse.l9 (a, (((bt a 0) == (45 : Int)), ((0 : Int), (0 : Int)))))).bind fun (x1 : ((Int × Bool) ⊕ (ByteArray × (Bool × Int)))) => (match x1 with | .inl x2 => (some x2) | .inr x2 => (bif (!x2.2.1) then (bif (x2.2.2 == (-9223372036854775808 : Int)) then (some ((0 : Int), false)) else (((bursarref01_Text.f (IntKind.wrap .i64 ((0 : Int) - x2.2.2)))).bind fun (x3 : ByteArray) => (some ((IntKind.wrap .i64 ((0 : Int) - x2.2.2)), ((ByteArray.toList x3) == (ByteArray.toList x2.1)))))) else (((bursarref01_Text.f x2.2.2)).bind fun (x3 : ByteArray) => (some (x2.2.2, ((ByteArray.toList x3) == (ByteArray.toList x2.1))))))))) else none) else (((bursarref01_Parse.l9 (a, (false, ((0 : Int), (0 : Int)))))).bind fun (x1 : ((Int × Bool) ⊕ (ByteArray × (Bool × Int)))) => (match x1 with | .inl x2 => (some x2) | .inr x2 => (bif (!x2.2.1) then (bif (x2.2.2 == (-9223372036854775808 : Int)) then (some ((0 : Int), false)) else (((bursarref01_Text.f (IntKind.wrap .i64 ((0 : Int) - x2.2.2)))).bind fun (x3 : ByteArray) => (some ((IntKind.wrap .i64 ((0 : Int) - x2.2.2)), ((ByteArray.toList x3) == (ByteArray.toList x2.1)))))) else (((bursarref01_Text.f x2.2.2)).bind fun (x3 : ByteArray) => (some (x2.2.2, ((ByteArray.toList x3) == (ByteArray.toList x2.1)))))))))
theorem bursarref01_Parse.ok : ∀ a : Vals bursarref01_Parse.As.tys, fnK P bursarref01_Parse.H (lp [(9, NodeT.summ ⟨bursarref01_Parse.sh9, bursarref01_Parse.os9, bursarref01_Parse.l9⟩ 0)]) 39 bursarref01_Parse.As bursarref01_Parse.m a some = bursarref01_Parse.f a := fun a => by kernel_rfl
noncomputable abbrev bursarref01_Parse.row : Row := fnRow 39 bursarref01_Parse.As bursarref01_Parse.m bursarref01_Parse.f
theorem bursarref01_Parse.row_ok : RowOK P G0 bursarref01_Parse.row := row_told bursarref01_Parse.hok (lp_of (l := [(9, NodeT.summ ⟨bursarref01_Parse.sh9, bursarref01_Parse.os9, bursarref01_Parse.l9⟩ 0)]) ⟨loop_sum bursarref01_Parse.hok (by kernel_rfl) (by kernel_rfl) (l := []) trivial bursarref01_Parse.sh9 bursarref01_Parse.os9 (by kernel_rfl) bursarref01_Parse.t9 bursarref01_Parse.t9_ok, trivial⟩) (fun _ => rfl) bursarref01_Parse.ok
end Go.Proofs.YtbjajidphaeogaaDoor
end
section
/- An amount's text: what the code and the document's answer make of it. By this session. -/
set_option linter.unusedVariables false
set_option linter.unusedSimpArgs false
namespace Go.Proofs.YtbjajidphaeogaaDoor
open Go Go.Fw
def Am (a : Int) : Prop := -9223372036854775808 ≤ a ∧ a ≤ 9223372036854775807
/-- an amount's text without its sign -/
def body (n : Nat) : List UInt8 := decP 19 (n / 1000) ++ [dgt (n / 100 % 10), 46, dgt (n / 10 % 10), dgt (n % 10)]
/-- an amount's text -/
def txt (a : Int) : List UInt8 := (if a < 0 then [45] else []) ++ body a.natAbs
theorem txt_len (a : Int) : (txt a).length ≤ 24 := by
  have := decP_len 19 (a.natAbs / 1000)
  unfold txt body
  split <;> simp <;> omega
theorem asize_is {a : Int} (ha : Am a) : money_size.f a = some (a.natAbs : Int) := by
  obtain ⟨h1, h2⟩ := ha
  unfold money_size.f
  simp only [wrap_u64]
  by_cases h : a < 0 <;> simp [h] <;> omega
theorem signed_is {u : Nat} {b : Bool} (h : u < 18446744073709551616) : ∃ r, money_signed.f ((u : Int), b) = some r ∧ (r = (0, 2) ∨ (Am (bif b then -(u : Int) else u) ∧ r = (bif b then -(u : Int) else u, 0))) ∧ (Am (bif b then -(u : Int) else u) → r = (bif b then -(u : Int) else u, 0)) := by
  unfold money_signed.f Am
  simp only [wrap_u64, IntKind.wrap_i64]
  cases b
  · by_cases h1 : (u : Int) ≤ 9223372036854775807
    · simp [h1]; omega
    · simp [h1]
  · by_cases h1 : (u : Int) ≤ 9223372036854775808
    · simp [h1]; omega
    · simp [h1]
theorem fmtU_is {n : Nat} (h : n < 18446744073709551616) : fmtU ((n : Int), 10) = some (bs (decF 20 n)) := by
  unfold fmtU
  have h1 : (decide ((0 : Int) ≤ (n : Int)) && decide ((n : Int) < 18446744073709551616) && decide ((10 : Int) = 10)) = true := by
    have h0 : (n : Int) < 18446744073709551616 := by omega
    simp [h0]
  rw [h1]
  simp [bs]
theorem cents_is (n : Nat) : strconv_FormatUint.f (((n % 100 + 100 : Nat) : Int), 10) = some (bs [dgt 1, dgt (n / 10 % 10), dgt (n % 10)]) := by
  show fmtU _ = _
  have h0 : decP 19 ((n % 100 + 100) / 10) = [dgt 1, dgt (n / 10 % 10)] := by
    unfold decP
    rw [if_neg (by omega)]
    unfold decP
    rw [if_neg (by omega)]
    unfold decP
    rw [if_pos (by omega)]
    rw [show (n % 100 + 100) / 10 / 10 % 10 = 1 by omega, show (n % 100 + 100) / 10 % 10 = n / 10 % 10 by omega]
    rfl
  rw [fmtU_is (by omega), decF_decP 19 _ (by omega), h0, show (n % 100 + 100) % 10 = n % 10 by omega]
  rfl
theorem whole_is {n : Nat} (hn : n ≤ 9223372036854775808) : strconv_FormatUint.f (((n / 100 : Nat) : Int), 10) = some (bs (decP 19 (n / 1000) ++ [dgt (n / 100 % 10)])) := by
  show fmtU _ = _
  rw [fmtU_is (by omega), decF_decP 19 _ (by omega), show n / 100 / 10 = n / 1000 by omega]
theorem Text_is {a : Int} (ha : Am a) : money_Text.f a = some (bs (txt a)) := by
  have hn : a.natAbs ≤ 9223372036854775808 := by obtain ⟨h1, h2⟩ := ha; omega
  unfold money_Text.f
  rw [asize_is ha]
  unfold txt
  obtain ⟨n, hN⟩ : ∃ n, a.natAbs = n := ⟨_, rfl⟩
  rw [hN] at hn ⊢
  have e1 : IntKind.wrap .u64 (Int.tmod (n : Int) 100 + 100) = ((n % 100 + 100 : Nat) : Int) := by
    rw [wrap_u64, show Int.tmod (n : Int) 100 = ((n % 100 : Nat) : Int) from (Int.ofNat_tmod n 100).symm]
    omega
  have e2 : IntKind.wrap .u64 (Int.tdiv (n : Int) 100) = ((n / 100 : Nat) : Int) := by
    rw [wrap_u64, show Int.tdiv (n : Int) 100 = ((n / 100 : Nat) : Int) from (Int.ofNat_tdiv n 100).symm]
    omega
  have f1 := cents_is n
  have f2 := whole_is hn
  have hl := decP_len 19 (n / 1000)
  unfold body
  obtain ⟨d, hd⟩ : ∃ d, decP 19 (n / 1000) = d := ⟨_, rfl⟩
  rw [hd] at hl f2 ⊢
  have b1 : ∀ k, k ≤ 100 → Nat.ble k 9223372036854775807 = true := fun k h => Nat.ble_eq_true_of_le (by omega)
  by_cases h : a < 0
  · rw [decide_eq_true h, if_pos h]
    rw [cond_true, Option.bind_some, e1, f1, Option.bind_some, e2, f2, Option.bind_some]
    simp only [bs_append, bs_size, bs_extract, Bool.true_and]
    rw [b1 _ (by simp; omega), b1 _ (by simp; omega), b1 _ (by simp; omega)]
    simp
  · rw [decide_eq_false h, if_neg h]
    rw [cond_false, Option.bind_some, e1, f1, Option.bind_some, e2, f2, Option.bind_some]
    simp only [bs_append, bs_size, bs_extract, Bool.true_and]
    rw [b1 _ (by simp; omega), b1 _ (by simp; omega), b1 _ (by simp; omega)]
    simp
/-- one digit more of the document's -/
theorem step_is (sg : ByteArray) {m i : Nat} {l : List UInt8} (hm : m ≤ 9223372036854775808) (hi : i ≤ 1000) (hl : l.length ≤ 1000) (h : i < 3 ∨ 0 < m) :
    bursarref01_Text.t9 (-(m : Int), (sg, (bs l, (i : Int)))) = some (.inl (-((m / 10 : Nat) : Int), (sg, (bs (dgt (m % 10) :: (if i = 2 then 46 :: l else l)), ((i + 1 : Nat) : Int))))) := by
  unfold bursarref01_Text.t9
  have e1 : IntKind.wrap .i64 (Int.tdiv (-(m : Int)) 10) = -((m / 10 : Nat) : Int) := by
    rw [Int.neg_tdiv, show Int.tdiv (m : Int) 10 = ((m / 10 : Nat) : Int) from (Int.ofNat_tdiv m 10).symm, wrap_i64 (by omega) (by omega)]
  have e2 : IntKind.wrap .u8 (IntKind.wrap .i64 ((48 : Int) - (Int.tmod (-(m : Int)) (10 : Int)))) = ((48 + m % 10 : Nat) : Int) := by
    rw [Int.neg_tmod, show Int.tmod (m : Int) 10 = ((m % 10 : Nat) : Int) from (Int.ofNat_tmod m 10).symm, wrap_i64 (by omega) (by omega), wrap_u8]
    omega
  have e3 : IntKind.wrap .i64 ((i : Int) + 1) = ((i + 1 : Nat) : Int) := wrap_up (by omega)
  have e4 : (ByteArray.mk (List.toArray (List.map (fun y4 => (UInt8.ofNat (Int.toNat y4))) [((48 + m % 10 : Nat) : Int)]))) = bs [dgt (m % 10)] := by
    show bs [UInt8.ofNat (Int.toNat ((48 + m % 10 : Nat) : Int))] = _
    rw [Int.toNat_natCast]
  have b1 : ∀ k, k ≤ 2000 → Nat.ble k 9223372036854775807 = true := fun k h => Nat.ble_eq_true_of_le (by omega)
  simp only [e1, e2, e3, e4, bs_append, bs_size]
  by_cases h2 : i = 2
  · subst h2
    have h3 : (((2 : Nat) : Int) == 2) = true := rfl
    have h4 : ((2 : Nat) : Int) < 3 := by omega
    simp only [h3, h4, decide_true, cond_true]
    rw [b1 _ (by omega), b1 _ (by simp; omega)]
    rfl
  · have h3 : ((i : Int) == 2) = false := by rw [beq_eq_false_iff_ne]; omega
    simp only [h3, cond_false, if_neg h2]
    rw [b1 _ (by simp; omega)]
    by_cases h4 : (i : Int) < 3
    · simp only [h4, decide_true, cond_true]; rfl
    · have h5 : -(m : Int) < 0 := by omega
      simp only [h4, h5, decide_true, decide_false, cond_true, cond_false]; rfl
theorem tail_is (sg : ByteArray) : ∀ (k n i : Nat) (l : List UInt8), n < 10 ^ k → k + i ≤ 1000 → 3 ≤ i → k + l.length ≤ 1000 → n ≤ 9223372036854775808 →
    bursarref01_Text.l9 (-(n : Int), (sg, (bs l, (i : Int)))) = some (sg, bs (decP k n ++ l))
  | k, 0, i, l, _, hi, h3, hl, _ => by
    unfold bursarref01_Text.l9
    rw [rounds_end (r := (sg, bs l))]
    · cases k <;> simp [decP]
    · unfold bursarref01_Text.t9
      have h1 : ¬ (i : Int) < 3 := by omega
      simp [h1]
  | 0, n + 1, i, l, h, _, _, _, _ => by simp at h
  | k + 1, n + 1, i, l, h, hi, h3, hl, hn => by
    have ih := tail_is sg k ((n + 1) / 10) (i + 1) (dgt ((n + 1) % 10) :: l) (by have : 10 ^ (k + 1) = 10 ^ k * 10 := Nat.pow_succ ..; omega) (by omega) (by omega) (by simp; omega) (by omega)
    unfold bursarref01_Text.l9 at ih ⊢
    rw [rounds_next (step_is sg hn (by omega) (by omega) (.inr (by omega))), if_neg (by omega), ih]
    simp [decP]
theorem digits_is (sg : ByteArray) {n : Nat} (hn : n ≤ 9223372036854775808) : bursarref01_Text.l9 (-(n : Int), (sg, (bs [], (0 : Int)))) = some (sg, bs (body n)) := by
  have h0 := step_is sg (m := n) (i := 0) (l := []) hn (by omega) (by simp) (.inl (by omega))
  have h1 := step_is sg (m := n / 10) (i := 1) (l := [dgt (n % 10)]) (by omega) (by omega) (by simp) (.inl (by omega))
  have h2 := step_is sg (m := n / 10 / 10) (i := 2) (l := [dgt (n / 10 % 10), dgt (n % 10)]) (by omega) (by omega) (by simp) (.inl (by omega))
  have h3 := tail_is sg 19 (n / 10 / 10 / 10) 3 [dgt (n / 10 / 10 % 10), 46, dgt (n / 10 % 10), dgt (n % 10)] (by omega) (by omega) (by omega) (by simp) (by omega)
  unfold bursarref01_Text.l9 at h3 ⊢
  refine (rounds_next h0).trans ((rounds_next h1).trans ((rounds_next h2).trans (h3.trans ?_)))
  unfold body
  rw [show n / 10 / 10 / 10 = n / 1000 by omega, show n / 10 / 10 % 10 = n / 100 % 10 by omega]
theorem ref_Text_is {a : Int} (ha : Am a) : bursarref01_Text.f a = some (bs (txt a)) := by
  obtain ⟨h1, h2⟩ := ha
  have b1 : ∀ k, k ≤ 100 → Nat.ble k 9223372036854775807 = true := fun k h => Nat.ble_eq_true_of_le (by omega)
  have hl : (body a.natAbs).length ≤ 23 := by
    have := decP_len 19 (a.natAbs / 1000)
    unfold body; simp; omega
  unfold bursarref01_Text.f txt
  by_cases h : a < 0
  · rw [decide_eq_false (by omega), if_pos h, cond_false]
    rw [show a = -(a.natAbs : Int) by omega, digits_is (bs [45]) (by omega), show (-(a.natAbs : Int)).natAbs = a.natAbs by omega]
    simp only [Option.bind_some, bs_append, bs_size]
    rw [b1 _ (by simp; omega)]
    rfl
  · rw [decide_eq_true (by omega), if_neg h, cond_true, wrap_i64 (by omega) (by omega)]
    rw [show (0 : Int) - a = -(a.natAbs : Int) by omega, digits_is (bs []) (by omega)]
    simp only [Option.bind_some, bs_append, bs_size]
    rw [b1 _ (by simp; omega)]
    rfl
end Go.Proofs.YtbjajidphaeogaaDoor
end
section
/- An amount of a text: what the document's answer reads. By this session. -/
set_option linter.unusedVariables false
set_option linter.unusedSimpArgs false
namespace Go.Proofs.YtbjajidphaeogaaDoor
open Go Go.Fw
/-- a number below 0, read on -/
def pr : List UInt8 → Int → Option Int
  | [], acc => some acc
  | c :: r, acc => if r.length = 2 ∧ c.toNat = 46 then pr r acc
    else if c.toNat < 48 ∨ 57 < c.toNat then none
    else if acc < -922337203685477580 ∨ acc = -922337203685477580 ∧ 56 < c.toNat then none
    else pr r (10 * acc - ((c.toNat : Int) - 48))
def Neg (a : Int) : Prop := -9223372036854775808 ≤ a ∧ a ≤ 0
theorem pr_neg : ∀ (l : List UInt8) (acc v : Int), Neg acc → pr l acc = some v → Neg v
  | [], acc, v, h, e => by injection e with e; subst e; exact h
  | c :: r, acc, v, h, e => by
    unfold pr at e
    split at e
    · exact pr_neg r _ _ h e
    · split at e
      · cases e
      · split at e
        · cases e
        · refine pr_neg r _ _ ?_ e
          obtain ⟨h1, h2⟩ := h
          constructor <;> omega
theorem drop_cons {α : Type} {l r : List α} {c : α} {i : Nat} (d : α) (h : l.drop i = c :: r) : l.getD i d = c ∧ l.drop (i + 1) = r ∧ i + 1 + r.length = l.length := by
  have hl := congrArg List.length h
  simp only [List.length_drop, List.length_cons] at hl
  refine ⟨?_, ?_, by omega⟩
  · have := congrArg (fun x => x[0]?) h
    simp only [List.getElem?_drop, List.getElem?_cons_zero, Nat.add_zero] at this
    rw [List.getD_eq_getElem?_getD, this]; rfl
  · rw [← List.drop_drop, h]; rfl
theorem turn_is {all r : List UInt8} {c : UInt8} {b : Bool} {i : Nat} {acc : Int} (hall : all.length ≤ 1000) (g1 : all.getD i 0 = c) (g3 : i + 1 + r.length = all.length) (hn : Neg acc) :
    bursarref01_Parse.t9 (bs all, (b, (acc, (i : Int)))) = some (if r.length = 2 ∧ c.toNat = 46 then .inl (bs all, (b, (acc, ((i + 1 : Nat) : Int)))) else if c.toNat < 48 ∨ 57 < c.toNat then .inr (.inl (0, false))
      else if acc < -922337203685477580 ∨ acc = -922337203685477580 ∧ 56 < c.toNat then .inr (.inl (0, false)) else .inl (bs all, (b, (10 * acc - ((c.toNat : Int) - 48), ((i + 1 : Nat) : Int))))) := by
  obtain ⟨n1, n2⟩ := hn
  have hb : bt (bs all) (Int.toNat (i : Int)) = (c.toNat : Int) := by rw [bt_bs, Int.toNat_natCast, g1]
  have hz : (((bs all).size : Nat) : Int) = (all.length : Int) := by rw [bs_size]
  have e3 : IntKind.wrap .i64 ((i : Int) + 1) = ((i + 1 : Nat) : Int) := wrap_up (by omega)
  have e4 : IntKind.wrap .i64 ((all.length : Int) - 3) = (all.length : Int) - 3 := wrap_i64 (by omega) (by omega)
  have hc := c.toNat_lt
  have e5 : IntKind.wrap .i64 (IntKind.wrap .i64 (c.toNat : Int) - 48) = (c.toNat : Int) - 48 := by rw [wrap_i64 (n := (c.toNat : Int)) (by omega) (by omega), wrap_i64 (by omega) (by omega)]
  have c1 : (i : Int) < (all.length : Int) := by omega
  have c2 : (0 : Int) ≤ (i : Int) := by omega
  have hsk : ((i : Int) == (all.length : Int) - 3) = decide (r.length = 2) := by
    rw [Bool.eq_iff_iff, beq_iff_eq, decide_eq_true_iff]; omega
  have hdot : ((c.toNat : Int) == 46) = decide (c.toNat = 46) := by
    rw [Bool.eq_iff_iff, beq_iff_eq, decide_eq_true_iff]; omega
  unfold bursarref01_Parse.t9
  simp only [hz, hb, e3, e4, e5, c1, c2, decide_true, Bool.true_and, cond_true, hsk, hdot]
  by_cases k1 : r.length = 2 ∧ c.toNat = 46
  · rw [if_pos k1]
    simp only [k1.1, k1.2, decide_true, cond_true]
  · rw [if_neg k1]
    have k1' : decide (r.length = 2) = false ∨ decide (c.toNat = 46) = false := by
      simp only [decide_eq_false_iff_not]; omega
    by_cases k2 : c.toNat < 48 ∨ 57 < c.toNat
    · rw [if_pos k2]
      by_cases k3 : (c.toNat : Int) < 48
      · rcases k1' with k1' | k1' <;> simp only [k1', k3, decide_true, cond_true, cond_false, Bool.cond_self]
      · have k4 : (c.toNat : Int) > 57 := by omega
        rcases k1' with k1' | k1' <;> simp only [k1', k3, k4, decide_true, decide_false, cond_true, cond_false, Bool.cond_self]
    · rw [if_neg k2]
      have k3 : ¬ (c.toNat : Int) < 48 := by omega
      have k4 : ¬ (c.toNat : Int) > 57 := by omega
      by_cases k5 : acc < -922337203685477580 ∨ acc = -922337203685477580 ∧ 56 < c.toNat
      · rw [if_pos k5]
        by_cases k6 : acc < -922337203685477580
        · rcases k1' with k1' | k1' <;> simp only [k1', k3, k4, k6, decide_true, decide_false, cond_true, cond_false, Bool.cond_self]
        · have k7 : (acc == -922337203685477580) = true := by rw [beq_iff_eq]; omega
          have k8 : (c.toNat : Int) - 48 > 8 := by omega
          rcases k1' with k1' | k1' <;> simp only [k1', k3, k4, k6, k7, k8, decide_true, decide_false, cond_true, cond_false, Bool.cond_self]
      · rw [if_neg k5]
        have e6 : IntKind.wrap .i64 (IntKind.wrap .i64 (10 * acc) - ((c.toNat : Int) - 48)) = 10 * acc - ((c.toNat : Int) - 48) := by
          rw [wrap_i64 (n := 10 * acc) (by omega) (by omega), wrap_i64 (by omega) (by omega)]
        have k6 : ¬ acc < -922337203685477580 := by omega
        simp only [e6]
        by_cases k7 : acc = -922337203685477580
        · have k8 : ¬ (c.toNat : Int) - 48 > 8 := by omega
          rcases k1' with k1' | k1' <;> simp only [k1', k3, k4, k6, k8, decide_false, cond_true, cond_false, Bool.cond_self]
        · have k8 : (acc == -922337203685477580) = false := by rw [beq_eq_false_iff_ne]; exact k7
          rcases k1' with k1' | k1' <;> simp only [k1', k3, k4, k6, k8, decide_false, cond_true, cond_false, Bool.cond_self]
theorem read_is (all : List UInt8) (b : Bool) (hall : all.length ≤ 1000) : ∀ (l : List UInt8) (i : Nat) (acc : Int), all.drop i = l → i ≤ all.length → Neg acc →
    bursarref01_Parse.l9 (bs all, (b, (acc, (i : Int)))) = some (match pr l acc with | none => .inl (0, false) | some v => .inr (bs all, (b, v)))
  | [], i, acc, h, hi, hn => by
    have hl := congrArg List.length h
    simp only [List.length_drop, List.length_nil] at hl
    unfold bursarref01_Parse.l9
    rw [rounds_end (r := .inr (bs all, (b, acc)))]
    · rfl
    · unfold bursarref01_Parse.t9
      have h1 : ¬ (i : Int) < ((bs all).size : Int) := by rw [bs_size]; omega
      simp only [h1, decide_false, cond_false]
  | c :: r, i, acc, h, hi, hn => by
    obtain ⟨g1, g2, g3⟩ := drop_cons 0 h
    have ih := fun acc' hn' => read_is all b hall r (i + 1) acc' g2 (by omega) hn'
    have st := turn_is (b := b) hall g1 g3 hn
    unfold bursarref01_Parse.l9 at ih ⊢
    unfold pr
    split at st
    · rename_i k; rw [if_pos k, rounds_next st]; exact ih acc hn
    · rename_i k; rw [if_neg k]
      split at st
      · rename_i k; rw [if_pos k, rounds_end st]
      · rename_i k; rw [if_neg k]
        split at st
        · rename_i k; rw [if_pos k, rounds_end st]
        · rename_i k' k; rw [if_neg k, rounds_next st]
          exact ih _ (by obtain ⟨n1, n2⟩ := hn; constructor <;> omega)
/-- the document's amount of a text, whose digits are told -/
def refRead (b : Bool) (l r : List UInt8) : Int × Bool :=
  match pr r 0 with
  | none => (0, false)
  | some v => if b = true then (v, decide (txt v = l)) else if v = -9223372036854775808 then (0, false) else (-v, decide (txt (-v) = l))
/-- the document's amount of a text -/
def refParse (l : List UInt8) : Int × Bool := if l.head? = some 45 then refRead true l (l.drop 1) else refRead false l l
theorem ref_Parse_is {l : List UInt8} (hl : l.length ≤ 1000) : bursarref01_Parse.f (bs l) = some (refParse l) := by
  have z : Neg 0 := ⟨by omega, by omega⟩
  have hr := fun b i (hi : i ≤ l.length) => read_is l b hl (l.drop i) i 0 rfl hi z
  have hv := fun i v (h : pr (l.drop i) 0 = some v) => pr_neg _ _ _ z h
  unfold bursarref01_Parse.f refParse
  simp only [bs_size, texts_eq, bt_bs]
  have fin : ∀ (i : Nat) (b : Bool), i ≤ l.length → (bursarref01_Parse.l9 (bs l, (b, ((0 : Int), (i : Int))))).bind (fun (x1 : ((Int × Bool) ⊕ (ByteArray × (Bool × Int)))) => (match x1 with | .inl x2 => (some x2) | .inr x2 => (bif (!x2.2.1) then (bif (x2.2.2 == (-9223372036854775808 : Int)) then (some ((0 : Int), false)) else (((bursarref01_Text.f (IntKind.wrap .i64 ((0 : Int) - x2.2.2)))).bind fun (x3 : ByteArray) => (some ((IntKind.wrap .i64 ((0 : Int) - x2.2.2)), decide (x3 = x2.1))))) else (((bursarref01_Text.f x2.2.2)).bind fun (x3 : ByteArray) => (some (x2.2.2, decide (x3 = x2.1)))))))
      = some (refRead b l (l.drop i)) := by
    intro i b hi
    rw [hr b i hi]
    unfold refRead
    cases hp : pr (l.drop i) 0 with
    | none => rfl
    | some v =>
      obtain ⟨v1, v2⟩ := hv i v hp
      cases b
      · simp only [Option.bind_some, Bool.not_false, cond_true, Bool.false_eq_true, if_false]
        by_cases hm : v = -9223372036854775808
        · subst hm; rfl
        · rw [if_neg hm, show (v == -9223372036854775808) = false by rw [beq_eq_false_iff_ne]; exact hm, cond_false, wrap_i64 (by omega) (by omega), ref_Text_is ⟨by omega, by omega⟩]
          simp only [Option.bind_some, bs_inj, Int.zero_sub]
      · simp only [Option.bind_some, Bool.not_true, cond_false, if_true]
        rw [ref_Text_is ⟨by omega, by omega⟩]
        simp only [Option.bind_some, bs_inj]
  cases l with
  | nil => exact fin 0 false (by omega)
  | cons c r =>
    have h1 : ((c :: r).length : Int) > 0 := by simp
    have h2 : (0 : Int) < ((c :: r).length : Int) := h1
    simp only [h1, h2, decide_true, cond_true, Bool.true_and]
    by_cases hc : c = 45
    · subst hc
      rw [if_pos (by rfl)]
      exact fin 1 true (by simp)
    · have h3 : (((List.getD (c :: r) 0 0).toNat : Int) == 45) = false := by
        rw [beq_eq_false_iff_ne]
        intro h
        apply hc
        apply UInt8.toNat_inj.1
        simp at h
        show c.toNat = 45
        omega
      simp only [h3, cond_false]
      rw [if_neg (by simpa using hc)]
      exact fin 0 false (by omega)
end Go.Proofs.YtbjajidphaeogaaDoor
end
section
/- An amount of a text: what the code reads. By this session. -/
set_option linter.unusedVariables false
set_option linter.unusedSimpArgs false
namespace Go.Proofs.YtbjajidphaeogaaDoor
open Go Go.Fw
def cut (l : List UInt8) : List UInt8 := if 0 ≤ Lib.indexByte l 46 then l.take (Lib.indexByte l 46).toNat ++ l.drop ((Lib.indexByte l 46).toNat + 1) else l
def sgn (b : Bool) (u : Nat) : Int := bif b then -(u : Int) else u
/-- what the code may read of a text: nothing, or an amount whose text it is -/
def Reads (b : Bool) (l r : List UInt8) (q : Int × Int) : Prop :=
  (q = (0, 4) ∨ ∃ v, Am v ∧ txt v = l ∧ q = (v, 0)) ∧ ∀ u, Lib.parseUintB 64 (cut r) = .ok u → Am (sgn b u) → txt (sgn b u) = l → q = (sgn b u, 0)
theorem tail_reads (b : Bool) (l r w : List UInt8) (hw : w = cut r) (hl : w.length ≤ 1000) : ∃ q, (strconv_ParseUint.f (bs w, ((10 : Int), (64 : Int)))).bind (fun (x1 : (Int × Bool)) => (bif (!(!x1.2)) then (some ((0 : Int), (4 : Int))) else (((money_signed.f (x1.1, b))).bind fun (x2 : (Int × Int)) => (bif (x2.2 != (0 : Int)) then (some ((0 : Int), (4 : Int))) else (((money_Text.f x2.1)).bind fun (x3 : ByteArray) => (bif (!(decide (x3 = bs l))) then (some ((0 : Int), (4 : Int))) else (some (x2.1, (0 : Int))))))))) = some q ∧ Reads b l r q := by
  subst hw
  have hp : strconv_ParseUint.f (bs (cut r), (10, 64)) = some (parseU (cut r)) := by
    unfold strconv_ParseUint.f
    simp only [bs_list, bs_size]
    have h0 : (cut r).length ≤ 281474976710656 := by omega
    simp only [h0, decide_true, Bool.true_and, cond_true]
  rw [hp, Option.bind_some]
  unfold parseU Reads
  cases h : Lib.parseUintB 64 (cut r) with
  | «syntax» => exact ⟨(0, 4), rfl, .inl rfl, fun u h => by cases h⟩
  | range => exact ⟨(0, 4), rfl, .inl rfl, fun u h => by cases h⟩
  | ok u =>
    have hu := Lib.parseUintB_le h
    obtain ⟨q, h1, h2, h3⟩ := signed_is (u := u) (b := b) (by omega)
    simp only [Bool.not_false, Bool.not_true, cond_false]
    rw [h1, Option.bind_some]
    have hs : (bif b then -(u : Int) else (u : Int)) = sgn b u := rfl
    rw [hs] at h2 h3
    rcases h2 with h2 | ⟨ha, h2⟩
    · subst h2
      refine ⟨(0, 4), rfl, .inl rfl, fun u' e hA _ => ?_⟩
      injection e with e
      subst e
      have := h3 hA
      injection this with _ h
      cases h
    · subst h2
      have hz : ((0 : Int) != 0) = false := by decide
      simp only [hz, cond_false]
      rw [Text_is ha, Option.bind_some]
      by_cases ht : txt (sgn b u) = l
      · subst ht
        simp only [decide_true, Bool.not_true, cond_false]
        exact ⟨_, rfl, .inr ⟨_, ha, rfl, rfl⟩, fun u' e _ _ => by injection e with e; subst e; rfl⟩
      · have hn : decide (bs (txt (sgn b u)) = bs l) = false := by rw [decide_eq_false_iff_not, bs_inj]; exact ht
        rw [hn]
        refine ⟨(0, 4), rfl, .inl rfl, fun u' e _ h => ?_⟩
        injection e with e
        subst e
        exact absurd h ht
theorem Parse_is {l : List UInt8} (hl : l.length ≤ 1000) : ∃ q, money_Parse.f (bs l) = some q ∧ (if l.head? = some 45 then Reads true l (l.drop 1) q else Reads false l l q) := by
  have fin := fun b r w hw hl => tail_reads b l r w hw hl
  have b1 : ∀ k, k ≤ 3000 → Nat.ble k 9223372036854775807 = true := fun k h => Nat.ble_eq_true_of_le (by omega)
  unfold money_Parse.f
  simp only [bs_size, bs_extract, bs_append, bs_list, texts_eq, bs_inj]
  have dot : ∀ (r : List UInt8) (b : Bool), r.length ≤ 1000 → ∃ q, (bif decide ([46] = r) then
      (bif (true && (decide (((1 : Int) ≤ (r.length : Int))))) then (bif (Nat.ble (((r.take 0).drop 0).length + ((r.take r.length).drop 1).length) 9223372036854775807) then
        ((strconv_ParseUint.f (bs (((r.take 0).drop 0) ++ ((r.take r.length).drop 1)), ((10 : Int), (64 : Int)))).bind (fun (x1 : (Int × Bool)) => (bif (!(!x1.2)) then (some ((0 : Int), (4 : Int))) else (((money_signed.f (x1.1, b))).bind fun (x2 : (Int × Int)) => (bif (x2.2 != (0 : Int)) then (some ((0 : Int), (4 : Int))) else (((money_Text.f x2.1)).bind fun (x3 : ByteArray) => (bif (!(decide (x3 = bs l))) then (some ((0 : Int), (4 : Int))) else (some (x2.1, (0 : Int)))))))))) else none) else none)
      else (bif (decide (Lib.indexByte r 46 ≥ (0 : Int))) then (bif ((decide ((0 : Int) ≤ Lib.indexByte r 46)) && (decide (Lib.indexByte r 46 ≤ (r.length : Int)))) then
        (bif ((decide (((0 : Int) ≤ (IntKind.wrap .i64 (Lib.indexByte r 46 + (1 : Int)))))) && (decide (((IntKind.wrap .i64 (Lib.indexByte r 46 + (1 : Int))) ≤ (r.length : Int))))) then
          (bif (Nat.ble (((r.take (Int.toNat (Lib.indexByte r 46))).drop 0).length + ((r.take r.length).drop (Int.toNat (IntKind.wrap .i64 (Lib.indexByte r 46 + (1 : Int))))).length) 9223372036854775807) then
            ((strconv_ParseUint.f (bs (((r.take (Int.toNat (Lib.indexByte r 46))).drop 0) ++ ((r.take r.length).drop (Int.toNat (IntKind.wrap .i64 (Lib.indexByte r 46 + (1 : Int)))))), ((10 : Int), (64 : Int)))).bind (fun (x1 : (Int × Bool)) => (bif (!(!x1.2)) then (some ((0 : Int), (4 : Int))) else (((money_signed.f (x1.1, b))).bind fun (x2 : (Int × Int)) => (bif (x2.2 != (0 : Int)) then (some ((0 : Int), (4 : Int))) else (((money_Text.f x2.1)).bind fun (x3 : ByteArray) => (bif (!(decide (x3 = bs l))) then (some ((0 : Int), (4 : Int))) else (some (x2.1, (0 : Int)))))))))) else none) else none) else none)
        else (bif (Nat.ble (r.length + 0) 9223372036854775807) then ((strconv_ParseUint.f (bs (r ++ []), ((10 : Int), (64 : Int)))).bind (fun (x1 : (Int × Bool)) => (bif (!(!x1.2)) then (some ((0 : Int), (4 : Int))) else (((money_signed.f (x1.1, b))).bind fun (x2 : (Int × Int)) => (bif (x2.2 != (0 : Int)) then (some ((0 : Int), (4 : Int))) else (((money_Text.f x2.1)).bind fun (x3 : ByteArray) => (bif (!(decide (x3 = bs l))) then (some ((0 : Int), (4 : Int))) else (some (x2.1, (0 : Int)))))))))) else none))) = some q ∧ Reads b l r q := by
    intro r b hr
    by_cases hd : [46] = r
    · subst hd
      exact fin b [46] [] (by decide) (by simp)
    · rw [decide_eq_false hd, cond_false]
      have hi := indexByte_lt 46 r
      have hu : ∀ x : Int, 0 ≤ x → x < r.length → IntKind.wrap .i64 (x + 1) = x + 1 := fun x h1 h2 => wrap_i64 (by omega) (by omega)
      by_cases h0 : 0 ≤ Lib.indexByte r 46
      · have hc : cut r = r.take (Lib.indexByte r 46).toNat ++ r.drop ((Lib.indexByte r 46).toNat + 1) := by unfold cut; rw [if_pos h0]
        obtain ⟨x, hx⟩ : ∃ x, Lib.indexByte r 46 = x := ⟨_, rfl⟩
        rw [hx] at h0 hi hc ⊢
        have p2 : x ≤ (r.length : Int) := by omega
        have p3 : 0 ≤ x + 1 := by omega
        have p4 : x + 1 ≤ (r.length : Int) := by omega
        rw [hu x h0 hi]
        simp only [ge_iff_le, h0, p2, p3, p4, decide_true, Bool.and_self, cond_true]
        rw [b1 _ (by simp; omega), cond_true]
        refine fin b r _ ?_ ?_
        · rw [hc, List.drop_zero, List.take_length, show (x + 1).toNat = x.toNat + 1 by omega]
        · simp; omega
      · rw [decide_eq_false (show ¬ Lib.indexByte r 46 ≥ 0 from h0), cond_false, b1 _ (by omega), cond_true]
        refine fin b r _ ?_ ?_
        · unfold cut; rw [if_neg h0, List.append_nil]
        · simp; omega
  cases l with
  | nil => exact dot [] false (by simp)
  | cons c r =>
    have h1 : ((c :: r).length : Int) ≥ 1 := by rw [List.length_cons]; omega
    have h2 : (1 : Int) ≤ ((c :: r).length : Int) := h1
    simp only [h1, h2, decide_true, cond_true, Bool.true_and]
    by_cases hc : c = 45
    · subst hc
      simp only [List.head?_cons, if_true]
      have h3 : decide (List.drop 0 (List.take 1 (45 :: r)) = [45]) = true := by simp
      simp only [h3, Bool.not_true, cond_false]
      have := dot r true (by simp at hl; omega)
      simpa using this
    · have hq : ¬ some c = some (45 : UInt8) := by simpa using hc
      simp only [List.head?_cons, Option.some.injEq, hc, if_false]
      have h3 : decide (List.drop 0 (List.take 1 (c :: r)) = [45]) = false := by simp [hc]
      simp only [h3, Bool.not_false, cond_true]
      have := dot (c :: r) false hl
      simp only [h1, h2, decide_true, cond_true, Bool.true_and] at this
      exact this
end Go.Proofs.YtbjajidphaeogaaDoor
end
section
/- Amounts and their texts, there and back. By this session. -/
set_option linter.unusedVariables false
set_option linter.unusedSimpArgs false
namespace Go.Proofs.YtbjajidphaeogaaDoor
open Go Go.Fw
theorem pr_dig {d : Nat} {t : List UInt8} {acc : Int} (hd : d < 10) (h1 : -9223372036854775808 ≤ 10 * acc - d) : pr (dgt d :: t) acc = pr t (10 * acc - d) := by
  have hn := dgt_nat hd
  conv => lhs; unfold pr
  simp only [hn]
  rw [if_neg (by omega), if_neg (by omega), if_neg (by omega)]
  congr 1
  omega
theorem pr_decP : ∀ (k n : Nat) (t : List UInt8), n < 10 ^ k → n ≤ 9223372036854775 → pr (decP k n ++ t) 0 = pr t (-(n : Int))
  | 0, n, t, h, _ => by
    have : n = 0 := by simpa using h
    subst this; rfl
  | k + 1, n, t, h, h2 => by
    unfold decP
    split
    · rename_i h0; subst h0; rfl
    · rw [List.append_assoc, pr_decP k (n / 10) _ (by have : 10 ^ (k + 1) = 10 ^ k * 10 := Nat.pow_succ ..; omega) (by omega), List.singleton_append, pr_dig (by omega) (by omega)]
      congr 1
      omega
theorem pr_body {n : Nat} (hn : n ≤ 9223372036854775808) : pr (body n) 0 = some (-(n : Int)) := by
  unfold body
  rw [pr_decP 19 (n / 1000) _ (by omega) (by omega), pr_dig (by omega) (by omega)]
  conv => lhs; unfold pr
  rw [if_pos ⟨rfl, rfl⟩, pr_dig (by omega) (by omega), pr_dig (by omega) (by omega)]
  show some _ = some _
  congr 1
  omega
theorem body_dig (n : Nat) : ∀ c, c ∈ decP 19 (n / 1000) ++ [dgt (n / 100 % 10)] → 48 ≤ c.toNat ∧ c.toNat ≤ 57 := by
  intro c h
  rcases List.mem_append.1 h with h | h
  · exact decP_dig _ _ _ h
  · rw [List.mem_singleton.1 h, dgt_nat (by omega)]; omega
theorem body_cut (n : Nat) : cut (body n) = decP 19 (n / 1000) ++ [dgt (n / 100 % 10), dgt (n / 10 % 10), dgt (n % 10)] := by
  have hd := body_dig n
  have e : body n = (decP 19 (n / 1000) ++ [dgt (n / 100 % 10)]) ++ 46 :: [dgt (n / 10 % 10), dgt (n % 10)] := by unfold body; simp
  obtain ⟨l, hl⟩ : ∃ l, decP 19 (n / 1000) ++ [dgt (n / 100 % 10)] = l := ⟨_, rfl⟩
  rw [hl] at hd e
  have hi := indexByte_skip 46 l [dgt (n / 10 % 10), dgt (n % 10)] fun x hx h => by
    have := hd x hx
    rw [h] at this
    exact absurd this (by decide)
  unfold cut
  rw [e, hi, if_pos (by omega), Int.toNat_natCast, List.take_left' rfl, ← List.drop_drop, List.drop_left' rfl, ← hl]
  simp
theorem body_parse {n : Nat} (hn : n ≤ 9223372036854775808) : Lib.parseUintB 64 (cut (body n)) = .ok n := by
  rw [body_cut]
  unfold Lib.parseUintB
  rw [if_neg (by simp), parse_decP _ 19 (n / 1000) _ (by omega) (by omega) (by omega), parse_dig (by omega) (by omega) (by omega), parse_dig (by omega) (by omega) (by omega), parse_dig (by omega) (by omega) (by omega)]
  show Lib.NumEnd.ok _ = _
  congr 1
  omega
theorem body_head (n : Nat) : ¬ (body n).head? = some 45 := by
  intro h
  have hd := body_dig n
  have e : body n = (decP 19 (n / 1000) ++ [dgt (n / 100 % 10)]) ++ 46 :: [dgt (n / 10 % 10), dgt (n % 10)] := by unfold body; simp
  cases hl : decP 19 (n / 1000) ++ [dgt (n / 100 % 10)] with
  | nil => simp at hl
  | cons c r =>
    rw [e, hl] at h
    have := hd c (by rw [hl]; exact List.mem_cons_self ..)
    simp at h
    rw [h] at this
    exact absurd this (by decide)
theorem refParse_txt {a : Int} (ha : Am a) : refParse (txt a) = (a, true) := by
  obtain ⟨h1, h2⟩ := ha
  unfold refParse
  by_cases h : a < 0
  · have e : txt a = 45 :: body a.natAbs := by unfold txt; rw [if_pos h]; rfl
    rw [e, if_pos (by rfl)]
    unfold refRead
    rw [List.drop_one, List.tail_cons, pr_body (by omega), show -(a.natAbs : Int) = a by omega]
    simp [e]
  · have e : txt a = body a.natAbs := by unfold txt; rw [if_neg h]; rfl
    rw [e, if_neg (body_head _)]
    unfold refRead
    rw [pr_body (by omega), show -(a.natAbs : Int) = -a by omega]
    simp only [Bool.false_eq_true, if_false]
    rw [if_neg (by omega), Int.neg_neg, e]
    simp
theorem refParse_only {l : List UInt8} (h : (refParse l).2 = true) : ∃ v, Am v ∧ txt v = l ∧ refParse l = (v, true) := by
  have z : Neg 0 := ⟨by omega, by omega⟩
  have key : ∀ b r, (refRead b l r).2 = true → ∃ v, Am v ∧ txt v = l ∧ refRead b l r = (v, true) := by
    intro b r h
    unfold refRead at h ⊢
    cases hp : pr r 0 with
    | none => rw [hp] at h; cases h
    | some v =>
      rw [hp] at h
      obtain ⟨v1, v2⟩ := pr_neg _ _ _ z hp
      cases b
      · simp only [Bool.false_eq_true, if_false] at h ⊢
        split at h
        · cases h
        · rename_i k
          rw [if_neg k]
          have ht : txt (-v) = l := by simpa using h
          exact ⟨-v, ⟨by omega, by omega⟩, ht, by simp [ht]⟩
      · simp only [if_true] at h ⊢
        have ht : txt v = l := by simpa using h
        exact ⟨v, ⟨by omega, by omega⟩, ht, by simp [ht]⟩
  unfold refParse at h ⊢
  split at h
  · rename_i k; rw [if_pos k]; exact key _ _ h
  · rename_i k; rw [if_neg k]; exact key _ _ h
theorem Parse_law {l : List UInt8} (hl : l.length ≤ 1000) : ∃ q, money_Parse.f (bs l) = some q ∧ (q = (0, 4) ∨ ∃ v, Am v ∧ txt v = l ∧ q = (v, 0)) ∧ ∀ v, Am v → txt v = l → q = (v, 0) := by
  obtain ⟨q, h1, h2⟩ := Parse_is hl
  refine ⟨q, h1, ?_, ?_⟩
  · split at h2 <;> exact h2.1
  · intro v hv ht
    subst ht
    obtain ⟨v1, v2⟩ := hv
    by_cases h : v < 0
    · have e : txt v = 45 :: body v.natAbs := by unfold txt; rw [if_pos h]; rfl
      rw [if_pos (by rw [e]; rfl)] at h2
      have e2 : sgn true v.natAbs = v := by show -(v.natAbs : Int) = v; omega
      have := h2.2 v.natAbs (by rw [e, List.drop_one, List.tail_cons, body_parse (by omega)])
      rw [e2] at this
      exact this ⟨v1, v2⟩ rfl
    · have e : txt v = body v.natAbs := by unfold txt; rw [if_neg h]; rfl
      rw [if_neg (by rw [e]; exact body_head _)] at h2
      have e2 : sgn false v.natAbs = v := by show (v.natAbs : Int) = v; omega
      have := h2.2 v.natAbs (by rw [e, body_parse (by omega)])
      rw [e2] at this
      exact this ⟨v1, v2⟩ rfl
end Go.Proofs.YtbjajidphaeogaaDoor
end
section
/- The Go function digit.All, as a Lean function, and that it is this one. Written by a program of this session. -/
set_option linter.unusedVariables false
set_option maxRecDepth 100000
namespace Go.Proofs.YtbjajidphaeogaaDoor
open Go Go.Fw
abbrev digit_All.As : Shs := (.cons (.x .s) .nil)
abbrev digit_All.m : Back := [(false, .b)]
noncomputable abbrev digit_All.H : HK := hk P G0 E0 [] noLoops 4
theorem digit_All.hok : HKOK P digit_All.H := hk_ok e0_ok (rows_ok (ws := []) trivial) (fun g n => noLoops_ok g n) 4
abbrev digit_All.sh3 : SSh := ⟨[(0, (.x .s)), (5, (.x (.i .i64))), (6, (.x (.i .i64)))], []⟩
abbrev digit_All.os3 : PEnds := [(.ret, ⟨[(2, (.x .b))], []⟩), ((.exit 0), ⟨[], []⟩)]
noncomputable def digit_All.t3 (s : (ByteArray × (Int × Int))) : Option ((ByteArray × (Int × Int)) ⊕ (Bool ⊕ Unit)) := (bif (decide ((s.2.2 < s.2.1))) then (bif ((decide (((0 : Int) ≤ s.2.2))) && (decide ((s.2.2 < (s.1.size : Int))))) then (bif (decide (((bt s.1 (Int.toNat s.2.2)) < (48 : Int)))) then (some (.inr (.inl false))) else (bif ((decide (((0 : Int) ≤ s.2.2))) && (decide ((s.2.2 < (s.1.size : Int))))) then (bif (decide (((bt s.1 (Int.toNat s.2.2)) > (57 : Int)))) then (some (.inr (.inl false))) else (some (.inl (s.1, (s.2.1, (IntKind.wrap .i64 (s.2.2 + (1 : Int)))))))) else none)) else none) else (some (.inr (.inr ()))))
theorem digit_All.t3_ok : ∀ s : Vals digit_All.sh3.tys, turnK P digit_All.H (lp []) (bodyAt (codeOf P 93) 3) 0 digit_All.sh3 digit_All.os3 s some = digit_All.t3 s := fun s => by kernel_rfl
noncomputable def digit_All.l3 : (ByteArray × (Int × Int)) → Option (Bool ⊕ Unit) := rounds digit_All.t3
noncomputable def digit_All.f (a : ByteArray) : Option Bool := (((digit_All.l3 (a, ((a.size : Int), (0 : Int))))).bind fun (x1 : (Bool ⊕ PUnit)) => (match x1 with | .inl x2 => (some x2) | .inr x2 => (some true)))
theorem digit_All.ok : ∀ a : Vals digit_All.As.tys, fnK P digit_All.H (lp [(3, NodeT.summ ⟨digit_All.sh3, digit_All.os3, digit_All.l3⟩ 0)]) 93 digit_All.As digit_All.m a some = digit_All.f a := fun a => by kernel_rfl
noncomputable abbrev digit_All.row : Row := fnRow 93 digit_All.As digit_All.m digit_All.f
theorem digit_All.row_ok : RowOK P G0 digit_All.row := row_told digit_All.hok (lp_of (l := [(3, NodeT.summ ⟨digit_All.sh3, digit_All.os3, digit_All.l3⟩ 0)]) ⟨loop_sum digit_All.hok (by kernel_rfl) (by kernel_rfl) (l := []) trivial digit_All.sh3 digit_All.os3 (by kernel_rfl) digit_All.t3 digit_All.t3_ok, trivial⟩) (fun _ => rfl) digit_All.ok
end Go.Proofs.YtbjajidphaeogaaDoor
end
section
/- The Go function digit.sum, as a Lean function, and that it is this one. Written by a program of this session. -/
set_option linter.unusedVariables false
set_option maxRecDepth 100000
namespace Go.Proofs.YtbjajidphaeogaaDoor
open Go Go.Fw
abbrev digit_sum.As : Shs := (.cons (.x .s) .nil)
abbrev digit_sum.m : Back := [(false, (.i .i64))]
noncomputable abbrev digit_sum.H : HK := hk P G0 E0 [] noLoops 4
theorem digit_sum.hok : HKOK P digit_sum.H := hk_ok e0_ok (rows_ok (ws := []) trivial) (fun g n => noLoops_ok g n) 4
abbrev digit_sum.sh5 : SSh := ⟨[(0, (.x .s)), (3, (.fn 135 .nil)), (4, (.x (.i .i64))), (8, (.x (.i .i64))), (9, (.x (.i .i64)))], []⟩
abbrev digit_sum.os5 : PEnds := [((.exit 0), ⟨[(4, (.x (.i .i64)))], []⟩)]
noncomputable def digit_sum.t5 (s : (ByteArray × (Int × (Int × Int)))) : Option ((ByteArray × (Int × (Int × Int))) ⊕ (Int)) := (bif (decide ((s.2.2.2 < s.2.2.1))) then (bif ((decide (((0 : Int) ≤ (IntKind.wrap .i64 ((IntKind.wrap .i64 ((s.1.size : Int) - (1 : Int))) - s.2.2.2))))) && (decide (((IntKind.wrap .i64 ((IntKind.wrap .i64 ((s.1.size : Int) - (1 : Int))) - s.2.2.2)) < (s.1.size : Int))))) then (bif ((Int.tmod s.2.2.2 (2 : Int)) == (1 : Int)) then (some (.inl (s.1, ((IntKind.wrap .i64 (s.2.1 + (IntKind.wrap .i64 ((IntKind.wrap .i64 ((2 : Int) * (IntKind.wrap .i64 (IntKind.wrap .u8 ((bt s.1 (Int.toNat (IntKind.wrap .i64 ((IntKind.wrap .i64 ((s.1.size : Int) - (1 : Int))) - s.2.2.2)))) - (48 : Int)))))) - (IntKind.wrap .i64 ((9 : Int) * (IntKind.wrap .i64 (Int.tdiv (IntKind.wrap .i64 (IntKind.wrap .u8 ((bt s.1 (Int.toNat (IntKind.wrap .i64 ((IntKind.wrap .i64 ((s.1.size : Int) - (1 : Int))) - s.2.2.2)))) - (48 : Int)))) (5 : Int))))))))), (s.2.2.1, (IntKind.wrap .i64 (s.2.2.2 + (1 : Int)))))))) else (some (.inl (s.1, ((IntKind.wrap .i64 (s.2.1 + (IntKind.wrap .i64 (IntKind.wrap .u8 ((bt s.1 (Int.toNat (IntKind.wrap .i64 ((IntKind.wrap .i64 ((s.1.size : Int) - (1 : Int))) - s.2.2.2)))) - (48 : Int)))))), (s.2.2.1, (IntKind.wrap .i64 (s.2.2.2 + (1 : Int))))))))) else none) else (some (.inr s.2.1)))
theorem digit_sum.t5_ok : ∀ s : Vals digit_sum.sh5.tys, turnK P digit_sum.H (lp []) (bodyAt (codeOf P 111) 5) 0 digit_sum.sh5 digit_sum.os5 s some = digit_sum.t5 s := fun s => by kernel_rfl
noncomputable def digit_sum.l5 : (ByteArray × (Int × (Int × Int))) → Option (Int) := rounds digit_sum.t5
noncomputable def digit_sum.f (a : ByteArray) : Option Int := (((digit_sum.l5 (a, ((0 : Int), ((a.size : Int), (0 : Int)))))).bind fun (x1 : Int) => (some x1))
theorem digit_sum.ok : ∀ a : Vals digit_sum.As.tys, fnK P digit_sum.H (lp [(5, NodeT.summ ⟨digit_sum.sh5, digit_sum.os5, digit_sum.l5⟩ 0)]) 111 digit_sum.As digit_sum.m a some = digit_sum.f a := fun a => by kernel_rfl
noncomputable abbrev digit_sum.row : Row := fnRow 111 digit_sum.As digit_sum.m digit_sum.f
theorem digit_sum.row_ok : RowOK P G0 digit_sum.row := row_told digit_sum.hok (lp_of (l := [(5, NodeT.summ ⟨digit_sum.sh5, digit_sum.os5, digit_sum.l5⟩ 0)]) ⟨loop_sum digit_sum.hok (by kernel_rfl) (by kernel_rfl) (l := []) trivial digit_sum.sh5 digit_sum.os5 (by kernel_rfl) digit_sum.t5 digit_sum.t5_ok, trivial⟩) (fun _ => rfl) digit_sum.ok
end Go.Proofs.YtbjajidphaeogaaDoor
end
section
/- The Go function digit.Sound, as a Lean function, and that it is this one. Written by a program of this session. -/
set_option linter.unusedVariables false
set_option maxRecDepth 100000
namespace Go.Proofs.YtbjajidphaeogaaDoor
open Go Go.Fw
abbrev digit_Sound.As : Shs := (.cons (.x .s) .nil)
abbrev digit_Sound.m : Back := [(false, .b)]
noncomputable abbrev digit_Sound.H : HK := hk P G0 E0 [digit_All.row, digit_sum.row] noLoops 4
theorem digit_Sound.hok : HKOK P digit_Sound.H := hk_ok e0_ok (rows_ok (ws := [digit_All.row, digit_sum.row]) ⟨digit_All.row_ok, ⟨digit_sum.row_ok, trivial⟩⟩) (fun g n => noLoops_ok g n) 4
noncomputable def digit_Sound.f (a : ByteArray) : Option Bool := (bif (decide (((a.size : Int) ≥ (2 : Int)))) then (((digit_All.f a)).bind fun (x1 : Bool) => (bif x1 then (((digit_sum.f a)).bind fun (x2 : Int) => (some ((Int.tmod x2 (10 : Int)) == (0 : Int)))) else (some false))) else (some false))
theorem digit_Sound.ok : ∀ a : Vals digit_Sound.As.tys, fnK P digit_Sound.H (lp []) 92 digit_Sound.As digit_Sound.m a some = digit_Sound.f a := fun a => by kernel_rfl
noncomputable abbrev digit_Sound.row : Row := fnRow 92 digit_Sound.As digit_Sound.m digit_Sound.f
theorem digit_Sound.row_ok : RowOK P G0 digit_Sound.row := row_told digit_Sound.hok (lp_of (l := []) trivial) (fun _ => rfl) digit_Sound.ok
end Go.Proofs.YtbjajidphaeogaaDoor
end
section
/- The Go function bursarref02.All, as a Lean function, and that it is this one. Written by a program of this session. -/
set_option linter.unusedVariables false
set_option maxRecDepth 100000
namespace Go.Proofs.YtbjajidphaeogaaDoor
open Go Go.Fw
abbrev bursarref02_All.As : Shs := (.cons (.x .s) .nil)
abbrev bursarref02_All.m : Back := [(false, .b)]
noncomputable abbrev bursarref02_All.H : HK := hk P G0 E0 [] noLoops 4
theorem bursarref02_All.hok : HKOK P bursarref02_All.H := hk_ok e0_ok (rows_ok (ws := []) trivial) (fun g n => noLoops_ok g n) 4
abbrev bursarref02_All.sh3 : SSh := ⟨[(0, (.x .s)), (3, (.x (.i .i64)))], []⟩
abbrev bursarref02_All.os3 : PEnds := [(.ret, ⟨[(2, (.x .b))], []⟩), ((.exit 0), ⟨[], []⟩)]
noncomputable def bursarref02_All.t3 (s : (ByteArray × Int)) : Option ((ByteArray × Int) ⊕ (Bool ⊕ Unit)) := (bif (decide ((s.2 < (s.1.size : Int)))) then (bif ((decide (((0 : Int) ≤ s.2))) && (decide ((s.2 < (s.1.size : Int))))) then (bif (decide (((bt s.1 (Int.toNat s.2)) < (48 : Int)))) then (some (.inr (.inl false))) else (bif ((decide (((0 : Int) ≤ s.2))) && (decide ((s.2 < (s.1.size : Int))))) then (bif (decide (((bt s.1 (Int.toNat s.2)) > (57 : Int)))) then (some (.inr (.inl false))) else (some (.inl (s.1, (IntKind.wrap .i64 (s.2 + (1 : Int))))))) else none)) else none) else (some (.inr (.inr ()))))
theorem bursarref02_All.t3_ok : ∀ s : Vals bursarref02_All.sh3.tys, turnK P bursarref02_All.H (lp []) (bodyAt (codeOf P 89) 3) 0 bursarref02_All.sh3 bursarref02_All.os3 s some = bursarref02_All.t3 s := fun s => by kernel_rfl
noncomputable def bursarref02_All.l3 : (ByteArray × Int) → Option (Bool ⊕ Unit) := rounds bursarref02_All.t3
noncomputable def bursarref02_All.f (a : ByteArray) : Option Bool := (((bursarref02_All.l3 (a, (0 : Int)))).bind fun (x1 : (Bool ⊕ PUnit)) => (match x1 with | .inl x2 => (some x2) | .inr x2 => (some true)))
theorem bursarref02_All.ok : ∀ a : Vals bursarref02_All.As.tys, fnK P bursarref02_All.H (lp [(3, NodeT.summ ⟨bursarref02_All.sh3, bursarref02_All.os3, bursarref02_All.l3⟩ 0)]) 89 bursarref02_All.As bursarref02_All.m a some = bursarref02_All.f a := fun a => by kernel_rfl
noncomputable abbrev bursarref02_All.row : Row := fnRow 89 bursarref02_All.As bursarref02_All.m bursarref02_All.f
theorem bursarref02_All.row_ok : RowOK P G0 bursarref02_All.row := row_told bursarref02_All.hok (lp_of (l := [(3, NodeT.summ ⟨bursarref02_All.sh3, bursarref02_All.os3, bursarref02_All.l3⟩ 0)]) ⟨loop_sum bursarref02_All.hok (by kernel_rfl) (by kernel_rfl) (l := []) trivial bursarref02_All.sh3 bursarref02_All.os3 (by kernel_rfl) bursarref02_All.t3 bursarref02_All.t3_ok, trivial⟩) (fun _ => rfl) bursarref02_All.ok
end Go.Proofs.YtbjajidphaeogaaDoor
end
section
/- The Go function bursarref02.Sound, as a Lean function, and that it is this one. Written by a program of this session. -/
set_option linter.unusedVariables false
set_option maxRecDepth 100000
namespace Go.Proofs.YtbjajidphaeogaaDoor
open Go Go.Fw
abbrev bursarref02_Sound.As : Shs := (.cons (.x .s) .nil)
abbrev bursarref02_Sound.m : Back := [(false, .b)]
noncomputable abbrev bursarref02_Sound.H : HK := hk P G0 E0 [bursarref02_All.row] noLoops 4
theorem bursarref02_Sound.hok : HKOK P bursarref02_Sound.H := hk_ok e0_ok (rows_ok (ws := [bursarref02_All.row]) ⟨bursarref02_All.row_ok, trivial⟩) (fun g n => noLoops_ok g n) 4
abbrev bursarref02_Sound.sh7 : SSh := ⟨[(0, (.x .s)), (3, (.x (.i .i64))), (4, (.x (.i .i64)))], []⟩
abbrev bursarref02_Sound.os7 : PEnds := [((.exit 0), ⟨[(3, (.x (.i .i64)))], []⟩)]
noncomputable def bursarref02_Sound.t7 (s : (ByteArray × (Int × Int))) : Option ((ByteArray × (Int × Int)) ⊕ (Int)) := (bif (decide ((s.2.2 < (s.1.size : Int)))) then (bif ((decide (((0 : Int) ≤ s.2.2))) && (decide ((s.2.2 < (s.1.size : Int))))) then (bif ((Int.tmod (IntKind.wrap .i64 ((s.1.size : Int) - s.2.2)) (2 : Int)) == (0 : Int)) then (bif (decide (((IntKind.wrap .i64 ((2 : Int) * (IntKind.wrap .i64 ((IntKind.wrap .i64 (bt s.1 (Int.toNat s.2.2))) - (48 : Int))))) > (9 : Int)))) then (some (.inl (s.1, ((IntKind.wrap .i64 (s.2.1 + (IntKind.wrap .i64 ((IntKind.wrap .i64 ((2 : Int) * (IntKind.wrap .i64 ((IntKind.wrap .i64 (bt s.1 (Int.toNat s.2.2))) - (48 : Int))))) - (9 : Int))))), (IntKind.wrap .i64 (s.2.2 + (1 : Int))))))) else (some (.inl (s.1, ((IntKind.wrap .i64 (s.2.1 + (IntKind.wrap .i64 ((2 : Int) * (IntKind.wrap .i64 ((IntKind.wrap .i64 (bt s.1 (Int.toNat s.2.2))) - (48 : Int))))))), (IntKind.wrap .i64 (s.2.2 + (1 : Int)))))))) else (some (.inl (s.1, ((IntKind.wrap .i64 (s.2.1 + (IntKind.wrap .i64 ((IntKind.wrap .i64 (bt s.1 (Int.toNat s.2.2))) - (48 : Int))))), (IntKind.wrap .i64 (s.2.2 + (1 : Int)))))))) else none) else (some (.inr s.2.1)))
theorem bursarref02_Sound.t7_ok : ∀ s : Vals bursarref02_Sound.sh7.tys, turnK P bursarref02_Sound.H (lp []) (bodyAt (codeOf P 88) 7) 0 bursarref02_Sound.sh7 bursarref02_Sound.os7 s some = bursarref02_Sound.t7 s := fun s => by kernel_rfl
noncomputable def bursarref02_Sound.l7 : (ByteArray × (Int × Int)) → Option (Int) := rounds bursarref02_Sound.t7
noncomputable def bursarref02_Sound.f (a : ByteArray) : Option Bool := (bif (decide (((a.size : Int) < (2 : Int)))) then (some false) else (((bursarref02_All.f a)).bind fun (x1 : Bool) => (bif (!x1) then (some false) else (((bursarref02_Sound.l7 (a, ((0 : Int), (0 : Int))))).bind fun (x2 : Int) => (some ((Int.tmod x2 (10 : Int)) == (0 : Int)))))))
theorem bursarref02_Sound.ok : ∀ a : Vals bursarref02_Sound.As.tys, fnK P bursarref02_Sound.H (lp [(7, NodeT.summ ⟨bursarref02_Sound.sh7, bursarref02_Sound.os7, bursarref02_Sound.l7⟩ 0)]) 88 bursarref02_Sound.As bursarref02_Sound.m a some = bursarref02_Sound.f a := fun a => by kernel_rfl
noncomputable abbrev bursarref02_Sound.row : Row := fnRow 88 bursarref02_Sound.As bursarref02_Sound.m bursarref02_Sound.f
theorem bursarref02_Sound.row_ok : RowOK P G0 bursarref02_Sound.row := row_told bursarref02_Sound.hok (lp_of (l := [(7, NodeT.summ ⟨bursarref02_Sound.sh7, bursarref02_Sound.os7, bursarref02_Sound.l7⟩ 0)]) ⟨loop_sum bursarref02_Sound.hok (by kernel_rfl) (by kernel_rfl) (l := []) trivial bursarref02_Sound.sh7 bursarref02_Sound.os7 (by kernel_rfl) bursarref02_Sound.t7 bursarref02_Sound.t7_ok, trivial⟩) (fun _ => rfl) bursarref02_Sound.ok
end Go.Proofs.YtbjajidphaeogaaDoor
end
section
/- Digits: what the code and the document's answer compute. By this session. -/
set_option linter.unusedVariables false
set_option linter.unusedSimpArgs false
namespace Go.Proofs.YtbjajidphaeogaaDoor
open Go Go.Fw
def digC (s : ByteArray) (i : Nat) : Bool := decide (48 ≤ bt s i) && decide (bt s i ≤ 57)
def digitsB (s : ByteArray) : Bool := (List.range s.size).all (digC s)
theorem digit_All_is (s : ByteArray) (hs : s.size ≤ 4611686018427387904) : digit_All.f s = some (digitsB s) := by
  have h := rounds_all (t := digit_All.t3) (fun i => (s, ((s.size : Int), (i : Int)))) (digC s) (.inl false) (.inr ()) s.size (fun i hi => by
    have := bt_bound s i
    have := wrap_up (n := i) (by omega)
    grind [digit_All.t3, digC]) (by simp [digit_All.t3])
  unfold digit_All.f digit_All.l3
  rw [show ((0 : Int)) = ((0 : Nat) : Int) from rfl, h]
  unfold digitsB
  cases (List.range s.size).all (digC s) <;> rfl
theorem ref_All_is (s : ByteArray) (hs : s.size ≤ 4611686018427387904) : bursarref02_All.f s = some (digitsB s) := by
  have h := rounds_all (t := bursarref02_All.t3) (fun i => (s, (i : Int))) (digC s) (.inl false) (.inr ()) s.size (fun i hi => by
    have := bt_bound s i
    have := wrap_up (n := i) (by omega)
    grind [bursarref02_All.t3, digC]) (by simp [bursarref02_All.t3])
  unfold bursarref02_All.f bursarref02_All.l3
  rw [show ((0 : Int)) = ((0 : Nat) : Int) from rfl, h]
  unfold digitsB
  cases (List.range s.size).all (digC s) <;> rfl
theorem digits_at {s : ByteArray} (h : digitsB s = true) {i : Nat} (hi : i < s.size) : 48 ≤ bt s i ∧ bt s i ≤ 57 := by
  unfold digitsB at h
  rw [List.all_eq_true] at h
  simpa [digC] using h i (List.mem_range.2 hi)
/-- what a digit counts, from the left -/
def term (s : ByteArray) (j : Nat) : Int := bif (s.size - j) % 2 == 0 then (bif decide (2 * (bt s j - 48) > 9) then 2 * (bt s j - 48) - 9 else 2 * (bt s j - 48)) else bt s j - 48
def luhn (s : ByteArray) : Int := sumTo (term s) s.size
theorem term_bound {s : ByteArray} (h : digitsB s = true) {j : Nat} (hj : j < s.size) : 0 ≤ term s j ∧ term s j ≤ 9 := by
  have := digits_at h hj
  grind [term]
theorem digit_sum_is (s : ByteArray) (hs : s.size ≤ 576460752303423488) (hd : digitsB s = true) : digit_sum.f s = some (luhn s) := by
  have hb : ∀ n, n ≤ s.size → 0 ≤ sumTo (fun j => term s (s.size - 1 - j)) n ∧ sumTo (fun j => term s (s.size - 1 - j)) n ≤ 9 * n := fun n hn => sumTo_bound fun j hj => term_bound hd (by omega)
  have h := rounds_to (t := digit_sum.t5) (fun i => (s, (sumTo (fun j => term s (s.size - 1 - j)) i, ((s.size : Int), (i : Int))))) s.size (fun i hi => by
    have h1 := digits_at hd (i := s.size - 1 - i) (by omega)
    have h2 := wrap_up (n := i) (by omega)
    have h3 : IntKind.wrap .i64 ((s.size : Int) - 1) = (s.size : Int) - 1 := wrap_i64 (by omega) (by omega)
    have h4 : IntKind.wrap .i64 ((s.size : Int) - 1 - i) = ((s.size - 1 - i : Nat) : Int) := by rw [wrap_i64 (by omega) (by omega)]; omega
    have h5 : term s (s.size - 1 - i) = bif (i : Int).tmod 2 == 1 then 2 * (bt s (s.size - 1 - i) - 48) - 9 * ((bt s (s.size - 1 - i) - 48) / 5) else bt s (s.size - 1 - i) - 48 := by
      have e : ((i : Int).tmod 2 == 1) = ((s.size - (s.size - 1 - i)) % 2 == 0) := by
        rw [Int.tmod_eq_emod_of_nonneg (by omega)]
        rw [Bool.eq_iff_iff]; simp only [beq_iff_eq]; omega
      rw [e]
      unfold term
      cases ((s.size - (s.size - 1 - i)) % 2 == 0) with
      | false => rfl
      | true =>
        simp only [cond_true]
        by_cases hx : 2 * (bt s (s.size - 1 - i) - 48) > 9
        · rw [decide_eq_true hx]; simp only [cond_true]; omega
        · rw [decide_eq_false hx]; simp only [cond_false]; omega
    have hbi := hb i (by omega)
    have hbt := term_bound hd (j := s.size - 1 - i) (by omega)
    simp only [digit_sum.t5, h3, h4, Int.toNat_natCast, sumTo, h2]
    rw [h5] at hbt ⊢
    generalize sumTo (fun j => term s (s.size - 1 - j)) i = T at hbi ⊢
    generalize bt s (s.size - 1 - i) = d at h1 hbt ⊢
    have w1 : IntKind.wrap .u8 (d - 48) = d - 48 := by rw [wrap_u8]; omega
    have w2 : IntKind.wrap .i64 (d - 48) = d - 48 := wrap_i64 (by omega) (by omega)
    have w3 : IntKind.wrap .i64 (2 * (d - 48)) = 2 * (d - 48) := wrap_i64 (by omega) (by omega)
    have w4 : Int.tdiv (d - 48) 5 = (d - 48) / 5 := Int.tdiv_eq_ediv_of_nonneg (by omega)
    have w5 : IntKind.wrap .i64 ((d - 48) / 5) = (d - 48) / 5 := wrap_i64 (by omega) (by omega)
    have w6 : IntKind.wrap .i64 (9 * ((d - 48) / 5)) = 9 * ((d - 48) / 5) := wrap_i64 (by omega) (by omega)
    have w7 : IntKind.wrap .i64 (2 * (d - 48) - 9 * ((d - 48) / 5)) = 2 * (d - 48) - 9 * ((d - 48) / 5) := wrap_i64 (by omega) (by omega)
    have w8 : IntKind.wrap .i64 (T + (2 * (d - 48) - 9 * ((d - 48) / 5))) = T + (2 * (d - 48) - 9 * ((d - 48) / 5)) := wrap_i64 (by omega) (by omega)
    have w9 : IntKind.wrap .i64 (T + (d - 48)) = T + (d - 48) := wrap_i64 (by omega) (by omega)
    rw [w1, w2, w3, w4, w5, w6, w7, w8, w9]
    have g1 : decide ((i : Int) < (s.size : Int)) = true := decide_eq_true (by omega)
    have g2 : decide ((0 : Int) ≤ ((s.size - 1 - i : Nat) : Int)) = true := decide_eq_true (by omega)
    have g3 : decide (((s.size - 1 - i : Nat) : Int) < (s.size : Int)) = true := decide_eq_true (by omega)
    rw [g1, g2, g3]
    cases ((i : Int).tmod 2 == 1) <;> rfl)
  unfold digit_sum.f digit_sum.l5
  have h0 : (s, ((0 : Int), ((s.size : Int), (0 : Int)))) = (s, (sumTo (fun j => term s (s.size - 1 - j)) 0, ((s.size : Int), ((0 : Nat) : Int)))) := rfl
  rw [h0, h, sumTo_back, rounds_end (r := luhn s) (by simp [digit_sum.t5, luhn])]
  rfl
theorem digit_Sound_is (s : ByteArray) (hs : s.size ≤ 576460752303423488) : digit_Sound.f s = some (decide (2 ≤ s.size) && (digitsB s && (luhn s % 10 == 0))) := by
  have hl : digitsB s = true → 0 ≤ luhn s := fun hd => (sumTo_bound (f := term s) (b := 9) (n := s.size) fun j hj => term_bound hd hj).1
  unfold digit_Sound.f
  rw [digit_All_is s (by omega)]
  by_cases h2 : 2 ≤ s.size
  · rw [show decide ((s.size : Int) ≥ 2) = true from decide_eq_true (by omega), decide_eq_true h2]
    cases hd : digitsB s with
    | false => rfl
    | true => simp only [Option.bind_some, cond_true, digit_sum_is s hs hd, Bool.true_and, Int.tmod_eq_emod_of_nonneg (hl hd)]
  · rw [show decide ((s.size : Int) ≥ 2) = false from decide_eq_false (by omega), decide_eq_false h2]; rfl
theorem ref_Sound_is (s : ByteArray) (hs : s.size ≤ 576460752303423488) : bursarref02_Sound.f s = some (decide (2 ≤ s.size) && (digitsB s && (luhn s % 10 == 0))) := by
  unfold bursarref02_Sound.f
  rw [ref_All_is s (by omega)]
  by_cases h2 : 2 ≤ s.size
  · rw [show decide ((s.size : Int) < 2) = false from decide_eq_false (by omega), decide_eq_true h2]
    cases hd : digitsB s with
    | false => rfl
    | true =>
      have hb : ∀ n, n ≤ s.size → 0 ≤ sumTo (term s) n ∧ sumTo (term s) n ≤ 9 * n := fun n hn => sumTo_bound fun j hj => term_bound hd (by omega)
      have h := rounds_to (t := bursarref02_Sound.t7) (fun i => (s, (sumTo (term s) i, (i : Int)))) s.size (fun i hi => by
        have h1 := digits_at hd (i := i) hi
        have h2 := wrap_up (n := i) (by omega)
        have h3 : IntKind.wrap .i64 ((s.size : Int) - i) = ((s.size - i : Nat) : Int) := by rw [wrap_i64 (by omega) (by omega)]; omega
        have h5 : ((((s.size - i : Nat) : Int).tmod 2) == 0) = ((s.size - i) % 2 == 0) := by
          rw [Int.tmod_eq_emod_of_nonneg (by omega), Bool.eq_iff_iff]; simp only [beq_iff_eq]; omega
        have hbi := hb i (by omega)
        simp only [bursarref02_Sound.t7, h3, h5, Int.toNat_natCast, sumTo, h2, term]
        generalize sumTo (term s) i = T at hbi ⊢
        have w1 : IntKind.wrap .i64 (bt s i) = bt s i := wrap_i64 (by omega) (by omega)
        have w2 : IntKind.wrap .i64 (bt s i - 48) = bt s i - 48 := wrap_i64 (by omega) (by omega)
        have w3 : IntKind.wrap .i64 (2 * (bt s i - 48)) = 2 * (bt s i - 48) := wrap_i64 (by omega) (by omega)
        have w7 : IntKind.wrap .i64 (2 * (bt s i - 48) - 9) = 2 * (bt s i - 48) - 9 := wrap_i64 (by omega) (by omega)
        have w8 : IntKind.wrap .i64 (T + (2 * (bt s i - 48) - 9)) = T + (2 * (bt s i - 48) - 9) := wrap_i64 (by omega) (by omega)
        have w9 : IntKind.wrap .i64 (T + (bt s i - 48)) = T + (bt s i - 48) := wrap_i64 (by omega) (by omega)
        have w10 : IntKind.wrap .i64 (T + 2 * (bt s i - 48)) = T + 2 * (bt s i - 48) := wrap_i64 (by omega) (by omega)
        simp only [w1, w2, w3, w7, w8, w9, w10]
        have g1 : decide ((i : Int) < (s.size : Int)) = true := decide_eq_true (by omega)
        have g2 : decide ((0 : Int) ≤ (i : Int)) = true := decide_eq_true (by omega)
        simp only [g1, g2, Bool.and_self, cond_true]
        cases ((s.size - i) % 2 == 0)
        · rfl
        · cases decide (2 * (bt s i - 48) > 9) <;> rfl)
      have h0 : (s, ((0 : Int), (0 : Int))) = (s, (sumTo (term s) 0, ((0 : Nat) : Int))) := rfl
      have hl := (hb s.size (Nat.le_refl _)).1
      unfold bursarref02_Sound.l7
      simp only [Option.bind_some, cond_true, cond_false, Bool.not_true, Bool.true_and]
      rw [h0, h, rounds_end (r := luhn s) (by simp [bursarref02_Sound.t7, luhn])]
      simp only [Option.bind_some, Int.tmod_eq_emod_of_nonneg (show 0 ≤ luhn s from hl)]
  · rw [show decide ((s.size : Int) < 2) = true from decide_eq_true (by omega), decide_eq_false h2]; rfl
end Go.Proofs.YtbjajidphaeogaaDoor
end
section
/- The Go function hold.until, as a Lean function, and that it is this one. Written by a program of this session. -/
set_option linter.unusedVariables false
set_option maxRecDepth 100000
namespace Go.Proofs.YtbjajidphaeogaaDoor
open Go Go.Fw
abbrev hold_until.As : Shs := (.cons (.x (.i .i64)) .nil)
abbrev hold_until.m : Back := [(false, .b)]
noncomputable abbrev hold_until.H : HK := hk P G0 E0 [] noLoops 4
theorem hold_until.hok : HKOK P hold_until.H := hk_ok e0_ok (rows_ok (ws := []) trivial) (fun g n => noLoops_ok g n) 4
noncomputable def hold_until.f (a : Int) : Option Bool := (bif (decide ((a ≥ (0 : Int)))) then (some (decide ((a ≤ (2147483647 : Int))))) else (some false))
theorem hold_until.ok : ∀ a : Vals hold_until.As.tys, fnK P hold_until.H (lp []) 103 hold_until.As hold_until.m a some = hold_until.f a := fun a => by kernel_rfl
noncomputable abbrev hold_until.row : Row := fnRow 103 hold_until.As hold_until.m hold_until.f
theorem hold_until.row_ok : RowOK P G0 hold_until.row := row_told hold_until.hok (lp_of (l := []) trivial) (fun _ => rfl) hold_until.ok
end Go.Proofs.YtbjajidphaeogaaDoor
end
section
/- The Go function hold.Ref, as a Lean function, and that it is this one. Written by a program of this session. -/
set_option linter.unusedVariables false
set_option maxRecDepth 100000
namespace Go.Proofs.YtbjajidphaeogaaDoor
open Go Go.Fw
abbrev hold_Ref.As : Shs := (.cons (.x .s) .nil)
abbrev hold_Ref.m : Back := [(false, .b)]
noncomputable abbrev hold_Ref.H : HK := hk P G0 E0 [] noLoops 4
theorem hold_Ref.hok : HKOK P hold_Ref.H := hk_ok e0_ok (rows_ok (ws := []) trivial) (fun g n => noLoops_ok g n) 4
abbrev hold_Ref.sh3 : SSh := ⟨[(0, (.x .s)), (6, (.x (.i .i64))), (7, (.x (.i .i64)))], []⟩
abbrev hold_Ref.os3 : PEnds := [(.ret, ⟨[(2, (.x .b))], []⟩), ((.exit 0), ⟨[(0, (.x .s))], []⟩)]
noncomputable def hold_Ref.t3 (s : (ByteArray × (Int × Int))) : Option ((ByteArray × (Int × Int)) ⊕ (Bool ⊕ ByteArray)) := (bif (decide ((s.2.2 < s.2.1))) then (bif ((decide (((0 : Int) ≤ s.2.2))) && (decide ((s.2.2 < (s.1.size : Int))))) then (bif (decide (((bt s.1 (Int.toNat s.2.2)) < (48 : Int)))) then (bif (decide (((bt s.1 (Int.toNat s.2.2)) < (65 : Int)))) then (some (.inr (.inl false))) else (bif (decide (((bt s.1 (Int.toNat s.2.2)) > (90 : Int)))) then (some (.inr (.inl false))) else (some (.inl (s.1, (s.2.1, (IntKind.wrap .i64 (s.2.2 + (1 : Int))))))))) else (bif (decide (((bt s.1 (Int.toNat s.2.2)) > (57 : Int)))) then (bif (decide (((bt s.1 (Int.toNat s.2.2)) < (65 : Int)))) then (some (.inr (.inl false))) else (bif (decide (((bt s.1 (Int.toNat s.2.2)) > (90 : Int)))) then (some (.inr (.inl false))) else (some (.inl (s.1, (s.2.1, (IntKind.wrap .i64 (s.2.2 + (1 : Int))))))))) else (some (.inl (s.1, (s.2.1, (IntKind.wrap .i64 (s.2.2 + (1 : Int))))))))) else none) else (some (.inr (.inr s.1))))
theorem hold_Ref.t3_ok : ∀ s : Vals hold_Ref.sh3.tys, turnK P hold_Ref.H (lp []) (bodyAt (codeOf P 44) 3) 0 hold_Ref.sh3 hold_Ref.os3 s some = hold_Ref.t3 s := fun s => by kernel_rfl
noncomputable def hold_Ref.l3 : (ByteArray × (Int × Int)) → Option (Bool ⊕ ByteArray) := rounds hold_Ref.t3
noncomputable def hold_Ref.f (a : ByteArray) : Option Bool := (((hold_Ref.l3 (a, ((a.size : Int), (0 : Int))))).bind fun (x1 : (Bool ⊕ ByteArray)) => (match x1 with | .inl x2 => (some x2) | .inr x2 => (some ((x2.size : Int) == (12 : Int)))))
theorem hold_Ref.ok : ∀ a : Vals hold_Ref.As.tys, fnK P hold_Ref.H (lp [(3, NodeT.summ ⟨hold_Ref.sh3, hold_Ref.os3, hold_Ref.l3⟩ 0)]) 44 hold_Ref.As hold_Ref.m a some = hold_Ref.f a := fun a => by kernel_rfl
noncomputable abbrev hold_Ref.row : Row := fnRow 44 hold_Ref.As hold_Ref.m hold_Ref.f
theorem hold_Ref.row_ok : RowOK P G0 hold_Ref.row := row_told hold_Ref.hok (lp_of (l := [(3, NodeT.summ ⟨hold_Ref.sh3, hold_Ref.os3, hold_Ref.l3⟩ 0)]) ⟨loop_sum hold_Ref.hok (by kernel_rfl) (by kernel_rfl) (l := []) trivial hold_Ref.sh3 hold_Ref.os3 (by kernel_rfl) hold_Ref.t3 hold_Ref.t3_ok, trivial⟩) (fun _ => rfl) hold_Ref.ok
end Go.Proofs.YtbjajidphaeogaaDoor
end
section
/- The Go function chart.May, as a Lean function, and that it is this one. Written by a program of this session. -/
set_option linter.unusedVariables false
set_option maxRecDepth 100000
namespace Go.Proofs.YtbjajidphaeogaaDoor
open Go Go.Fw
abbrev chart_May.As : Shs := (.cons (.x T_api_Account) .nil)
abbrev chart_May.m : Back := [(false, .b)]
noncomputable abbrev chart_May.H : HK := hk P G0 E0 [digit_Sound.row, digit_All.row] noLoops 4
theorem chart_May.hok : HKOK P chart_May.H := hk_ok e0_ok (rows_ok (ws := [digit_Sound.row, digit_All.row]) ⟨digit_Sound.row_ok, ⟨digit_All.row_ok, trivial⟩⟩) (fun g n => noLoops_ok g n) 4
noncomputable def chart_May.f (a : (Int × ByteArray)) : Option Bool := (bif (a.1 == (1 : Int)) then (bif ((a.2.size : Int) == (16 : Int)) then (((digit_Sound.f a.2)).bind fun (x1 : Bool) => (some x1)) else (some false)) else (bif (a.1 == (2 : Int)) then (bif ((a.2.size : Int) == (6 : Int)) then (((digit_All.f a.2)).bind fun (x1 : Bool) => (some x1)) else (some false)) else (bif (a.1 == (3 : Int)) then (bif (a.1 == (3 : Int)) then (some ((ByteArray.toList a.2) == (ByteArray.toList (bs [])))) else (some false)) else (bif (a.1 == (4 : Int)) then (some ((ByteArray.toList a.2) == (ByteArray.toList (bs [])))) else (some false)))))
theorem chart_May.ok : ∀ a : Vals chart_May.As.tys, fnK P chart_May.H (lp []) 65 chart_May.As chart_May.m a some = chart_May.f a := fun a => by kernel_rfl
noncomputable abbrev chart_May.row : Row := fnRow 65 chart_May.As chart_May.m chart_May.f
theorem chart_May.row_ok : RowOK P G0 chart_May.row := row_told chart_May.hok (lp_of (l := []) trivial) (fun _ => rfl) chart_May.ok
end Go.Proofs.YtbjajidphaeogaaDoor
end
section
/- The Go function hold.May, as a Lean function, and that it is this one. Written by a program of this session. -/
set_option linter.unusedVariables false
set_option maxRecDepth 100000
namespace Go.Proofs.YtbjajidphaeogaaDoor
open Go Go.Fw
abbrev hold_May.As : Shs := (.cons (.x T_api_Hold) .nil)
abbrev hold_May.m : Back := [(false, .b)]
noncomputable abbrev hold_May.H : HK := hk P G0 E0 [hold_Ref.row, chart_May.row, hold_until.row] noLoops 4
theorem hold_May.hok : HKOK P hold_May.H := hk_ok e0_ok (rows_ok (ws := [hold_Ref.row, chart_May.row, hold_until.row]) ⟨hold_Ref.row_ok, ⟨chart_May.row_ok, ⟨hold_until.row_ok, trivial⟩⟩⟩) (fun g n => noLoops_ok g n) 4
noncomputable def hold_May.f (a : (ByteArray × (ByteArray × (ByteArray × (Int × (Int × (Int × Bool))))))) : Option Bool := (((hold_Ref.f a.1)).bind fun (x1 : Bool) => (bif (!x1) then (some false) else (((chart_May.f ((1 : Int), a.2.2.1))).bind fun (x2 : Bool) => (bif (!x2) then (some false) else (((chart_May.f ((2 : Int), a.2.1))).bind fun (x3 : Bool) => (bif (!x3) then (some false) else (((hold_until.f a.2.2.2.2.2.1)).bind fun (x4 : Bool) => (bif (!x4) then (some false) else (bif (decide ((a.2.2.2.2.1 ≥ (0 : Int)))) then (bif (decide ((a.2.2.2.2.1 ≤ a.2.2.2.1))) then (bif (!a.2.2.2.2.2.2) then (some true) else (some (decide ((a.2.2.2.2.1 < a.2.2.2.1))))) else (some false)) else (some false))))))))))
theorem hold_May.ok : ∀ a : Vals hold_May.As.tys, fnK P hold_May.H (lp []) 76 hold_May.As hold_May.m a some = hold_May.f a := fun a => by kernel_rfl
noncomputable abbrev hold_May.row : Row := fnRow 76 hold_May.As hold_May.m hold_May.f
theorem hold_May.row_ok : RowOK P G0 hold_May.row := row_told hold_May.hok (lp_of (l := []) trivial) (fun _ => rfl) hold_May.ok
end Go.Proofs.YtbjajidphaeogaaDoor
end
section
/- The Go function bursarref11.Name, as a Lean function, and that it is this one. Written by a program of this session. -/
set_option linter.unusedVariables false
set_option maxRecDepth 100000
namespace Go.Proofs.YtbjajidphaeogaaDoor
open Go Go.Fw
abbrev bursarref11_Name.As : Shs := (.cons (.x T_api_Account) .nil)
abbrev bursarref11_Name.m : Back := [(false, .s), (false, .b)]
noncomputable abbrev bursarref11_Name.H : HK := hk P G0 E0 [bursarref02_Sound.row, bursarref02_All.row] noLoops 4
theorem bursarref11_Name.hok : HKOK P bursarref11_Name.H := hk_ok e0_ok (rows_ok (ws := [bursarref02_Sound.row, bursarref02_All.row]) ⟨bursarref02_Sound.row_ok, ⟨bursarref02_All.row_ok, trivial⟩⟩) (fun g n => noLoops_ok g n) 4
noncomputable def bursarref11_Name.f (a : (Int × ByteArray)) : Option (ByteArray × Bool) := (bif (a.1 == (1 : Int)) then (bif ((a.2.size : Int) == (16 : Int)) then (((bursarref02_Sound.f a.2)).bind fun (x1 : Bool) => (bif x1 then (bif (Nat.ble (1 + a.2.size) 9223372036854775807) then (some (((bs [67]) ++ a.2), true)) else none) else (bif (a.1 == (2 : Int)) then (bif ((a.2.size : Int) == (6 : Int)) then (((bursarref02_All.f a.2)).bind fun (x2 : Bool) => (bif x2 then (bif (Nat.ble (1 + a.2.size) 9223372036854775807) then (some (((bs [65]) ++ a.2), true)) else none) else (bif (a.1 == (3 : Int)) then (bif ((ByteArray.toList a.2) == (ByteArray.toList (bs []))) then (some ((bs [72]), true)) else (bif (a.1 == (4 : Int)) then (bif ((ByteArray.toList a.2) == (ByteArray.toList (bs []))) then (some ((bs [68]), true)) else (some ((bs []), false))) else (some ((bs []), false)))) else (bif (a.1 == (4 : Int)) then (bif ((ByteArray.toList a.2) == (ByteArray.toList (bs []))) then (some ((bs [68]), true)) else (some ((bs []), false))) else (some ((bs []), false)))))) else (bif (a.1 == (3 : Int)) then (bif ((ByteArray.toList a.2) == (ByteArray.toList (bs []))) then (some ((bs [72]), true)) else (bif (a.1 == (4 : Int)) then (bif ((ByteArray.toList a.2) == (ByteArray.toList (bs []))) then (some ((bs [68]), true)) else (some ((bs []), false))) else (some ((bs []), false)))) else (bif (a.1 == (4 : Int)) then (bif ((ByteArray.toList a.2) == (ByteArray.toList (bs []))) then (some ((bs [68]), true)) else (some ((bs []), false))) else (some ((bs []), false))))) else (bif (a.1 == (3 : Int)) then (bif ((ByteArray.toList a.2) == (ByteArray.toList (bs []))) then (some ((bs [72]), true)) else (bif (a.1 == (4 : Int)) then (bif ((ByteArray.toList a.2) == (ByteArray.toList (bs []))) then (some ((bs [68]), true)) else (some ((bs []), false))) else (some ((bs []), false)))) else (bif (a.1 == (4 : Int)) then (bif ((ByteArray.toList a.2) == (ByteArray.toList (bs []))) then (some ((bs [68]), true)) else (some ((bs []), false))) else (some ((bs []), false))))))) else (bif (a.1 == (2 : Int)) then (bif ((a.2.size : Int) == (6 : Int)) then (((bursarref02_All.f a.2)).bind fun (x1 : Bool) => (bif x1 then (bif (Nat.ble (1 + a.2.size) 9223372036854775807) then (some (((bs [65]) ++ a.2), true)) else none) else (bif (a.1 == (3 : Int)) then (bif ((ByteArray.toList a.2) == (ByteArray.toList (bs []))) then (some ((bs [72]), true)) else (bif (a.1 == (4 : Int)) then (bif ((ByteArray.toList a.2) == (ByteArray.toList (bs []))) then (some ((bs [68]), true)) else (some ((bs []), false))) else (some ((bs []), false)))) else (bif (a.1 == (4 : Int)) then (bif ((ByteArray.toList a.2) == (ByteArray.toList (bs []))) then (some ((bs [68]), true)) else (some ((bs []), false))) else (some ((bs []), false)))))) else (bif (a.1 == (3 : Int)) then (bif ((ByteArray.toList a.2) == (ByteArray.toList (bs []))) then (some ((bs [72]), true)) else (bif (a.1 == (4 : Int)) then (bif ((ByteArray.toList a.2) == (ByteArray.toList (bs []))) then (some ((bs [68]), true)) else (some ((bs []), false))) else (some ((bs []), false)))) else (bif (a.1 == (4 : Int)) then (bif ((ByteArray.toList a.2) == (ByteArray.toList (bs []))) then (some ((bs [68]), true)) else (some ((bs []), false))) else (some ((bs []), false))))) else (bif (a.1 == (3 : Int)) then (bif ((ByteArray.toList a.2) == (ByteArray.toList (bs []))) then (some ((bs [72]), true)) else (bif (a.1 == (4 : Int)) then (bif ((ByteArray.toList a.2) == (ByteArray.toList (bs []))) then (some ((bs [68]), true)) else (some ((bs []), false))) else (some ((bs []), false)))) else (bif (a.1 == (4 : Int)) then (bif ((ByteArray.toList a.2) == (ByteArray.toList (bs []))) then (some ((bs [68]), true)) else (some ((bs []), false))) else (some ((bs []), false)))))) else (bif (a.1 == (2 : Int)) then (bif ((a.2.size : Int) == (6 : Int)) then (((bursarref02_All.f a.2)).bind fun (x1 : Bool) => (bif x1 then (bif (Nat.ble (1 + a.2.size) 9223372036854775807) then (some (((bs [65]) ++ a.2), true)) else none) else (bif (a.1 == (3 : Int)) then (bif ((ByteArray.toList a.2) == (ByteArray.toList (bs []))) then (some ((bs [72]), true)) else (bif (a.1 == (4 : Int)) then (bif ((ByteArray.toList a.2) == (ByteArray.toList (bs []))) then (some ((bs [68]), true)) else (some ((bs []), false))) else (some ((bs []), false)))) else (bif (a.1 == (4 : Int)) then (bif ((ByteArray.toList a.2) == (ByteArray.toList (bs []))) then (some ((bs [68]), true)) else (some ((bs []), false))) else (some ((bs []), false)))))) else (bif (a.1 == (3 : Int)) then (bif ((ByteArray.toList a.2) == (ByteArray.toList (bs []))) then (some ((bs [72]), true)) else (bif (a.1 == (4 : Int)) then (bif ((ByteArray.toList a.2) == (ByteArray.toList (bs []))) then (some ((bs [68]), true)) else (some ((bs []), false))) else (some ((bs []), false)))) else (bif (a.1 == (4 : Int)) then (bif ((ByteArray.toList a.2) == (ByteArray.toList (bs []))) then (some ((bs [68]), true)) else (some ((bs []), false))) else (some ((bs []), false))))) else (bif (a.1 == (3 : Int)) then (bif ((ByteArray.toList a.2) == (ByteArray.toList (bs []))) then (some ((bs [72]), true)) else (bif (a.1 == (4 : Int)) then (bif ((ByteArray.toList a.2) == (ByteArray.toList (bs []))) then (some ((bs [68]), true)) else (some ((bs []), false))) else (some ((bs []), false)))) else (bif (a.1 == (4 : Int)) then (bif ((ByteArray.toList a.2) == (ByteArray.toList (bs []))) then (some ((bs [68]), true)) else (some ((bs []), false))) else (some ((bs []), false))))))
theorem bursarref11_Name.ok : ∀ a : Vals bursarref11_Name.As.tys, fnK P bursarref11_Name.H (lp []) 58 bursarref11_Name.As bursarref11_Name.m a some = bursarref11_Name.f a := fun a => by kernel_rfl
noncomputable abbrev bursarref11_Name.row : Row := fnRow 58 bursarref11_Name.As bursarref11_Name.m bursarref11_Name.f
theorem bursarref11_Name.row_ok : RowOK P G0 bursarref11_Name.row := row_told bursarref11_Name.hok (lp_of (l := []) trivial) (fun _ => rfl) bursarref11_Name.ok
end Go.Proofs.YtbjajidphaeogaaDoor
end
section
/- The Go function bursarref14.Ref, as a Lean function, and that it is this one. Written by a program of this session. -/
set_option linter.unusedVariables false
set_option maxRecDepth 100000
namespace Go.Proofs.YtbjajidphaeogaaDoor
open Go Go.Fw
abbrev bursarref14_Ref.As : Shs := (.cons (.x .s) .nil)
abbrev bursarref14_Ref.m : Back := [(false, .b)]
noncomputable abbrev bursarref14_Ref.H : HK := hk P G0 E0 [] noLoops 4
theorem bursarref14_Ref.hok : HKOK P bursarref14_Ref.H := hk_ok e0_ok (rows_ok (ws := []) trivial) (fun g n => noLoops_ok g n) 4
abbrev bursarref14_Ref.sh6 : SSh := ⟨[(0, (.x .s)), (3, (.x (.i .i64)))], []⟩
abbrev bursarref14_Ref.os6 : PEnds := [(.ret, ⟨[(2, (.x .b))], []⟩), ((.exit 0), ⟨[], []⟩)]
noncomputable def bursarref14_Ref.t6 (s : (ByteArray × Int)) : Option ((ByteArray × Int) ⊕ (Bool ⊕ Unit)) := (bif (decide ((s.2 < (12 : Int)))) then (bif ((decide (((0 : Int) ≤ s.2))) && (decide ((s.2 < (s.1.size : Int))))) then (bif (decide (((48 : Int) ≤ (bt s.1 (Int.toNat s.2))))) then (bif ((decide (((0 : Int) ≤ s.2))) && (decide ((s.2 < (s.1.size : Int))))) then (bif (!(decide (((bt s.1 (Int.toNat s.2)) ≤ (57 : Int))))) then (bif ((decide (((0 : Int) ≤ s.2))) && (decide ((s.2 < (s.1.size : Int))))) then (bif (decide (((65 : Int) ≤ (bt s.1 (Int.toNat s.2))))) then (bif ((decide (((0 : Int) ≤ s.2))) && (decide ((s.2 < (s.1.size : Int))))) then (bif (!(decide (((bt s.1 (Int.toNat s.2)) ≤ (90 : Int))))) then (some (.inr (.inl false))) else (some (.inl (s.1, (IntKind.wrap .i64 (s.2 + (1 : Int))))))) else none) else (some (.inr (.inl false)))) else none) else (some (.inl (s.1, (IntKind.wrap .i64 (s.2 + (1 : Int))))))) else none) else (bif ((decide (((0 : Int) ≤ s.2))) && (decide ((s.2 < (s.1.size : Int))))) then (bif (decide (((65 : Int) ≤ (bt s.1 (Int.toNat s.2))))) then (bif ((decide (((0 : Int) ≤ s.2))) && (decide ((s.2 < (s.1.size : Int))))) then (bif (!(decide (((bt s.1 (Int.toNat s.2)) ≤ (90 : Int))))) then (some (.inr (.inl false))) else (some (.inl (s.1, (IntKind.wrap .i64 (s.2 + (1 : Int))))))) else none) else (some (.inr (.inl false)))) else none)) else none) else (some (.inr (.inr ()))))
theorem bursarref14_Ref.t6_ok : ∀ s : Vals bursarref14_Ref.sh6.tys, turnK P bursarref14_Ref.H (lp []) (bodyAt (codeOf P 45) 6) 0 bursarref14_Ref.sh6 bursarref14_Ref.os6 s some = bursarref14_Ref.t6 s := fun s => by kernel_rfl
noncomputable def bursarref14_Ref.l6 : (ByteArray × Int) → Option (Bool ⊕ Unit) := rounds bursarref14_Ref.t6
noncomputable def bursarref14_Ref.f (a : ByteArray) : Option Bool := (bif ((a.size : Int) != (12 : Int)) then (some false) else (((bursarref14_Ref.l6 (a, (0 : Int)))).bind fun (x1 : (Bool ⊕ PUnit)) => (match x1 with | .inl x2 => (some x2) | .inr x2 => (some true))))
theorem bursarref14_Ref.ok : ∀ a : Vals bursarref14_Ref.As.tys, fnK P bursarref14_Ref.H (lp [(6, NodeT.summ ⟨bursarref14_Ref.sh6, bursarref14_Ref.os6, bursarref14_Ref.l6⟩ 0)]) 45 bursarref14_Ref.As bursarref14_Ref.m a some = bursarref14_Ref.f a := fun a => by kernel_rfl
noncomputable abbrev bursarref14_Ref.row : Row := fnRow 45 bursarref14_Ref.As bursarref14_Ref.m bursarref14_Ref.f
theorem bursarref14_Ref.row_ok : RowOK P G0 bursarref14_Ref.row := row_told bursarref14_Ref.hok (lp_of (l := [(6, NodeT.summ ⟨bursarref14_Ref.sh6, bursarref14_Ref.os6, bursarref14_Ref.l6⟩ 0)]) ⟨loop_sum bursarref14_Ref.hok (by kernel_rfl) (by kernel_rfl) (l := []) trivial bursarref14_Ref.sh6 bursarref14_Ref.os6 (by kernel_rfl) bursarref14_Ref.t6 bursarref14_Ref.t6_ok, trivial⟩) (fun _ => rfl) bursarref14_Ref.ok
end Go.Proofs.YtbjajidphaeogaaDoor
end
section
/- The Go function bursarref14.May, as a Lean function, and that it is this one. Written by a program of this session. -/
set_option linter.unusedVariables false
set_option maxRecDepth 100000
namespace Go.Proofs.YtbjajidphaeogaaDoor
open Go Go.Fw
abbrev bursarref14_May.As : Shs := (.cons (.x T_api_Hold) .nil)
abbrev bursarref14_May.m : Back := [(false, .b)]
noncomputable abbrev bursarref14_May.H : HK := hk P G0 E0 [bursarref14_Ref.row, bursarref11_Name.row] noLoops 4
theorem bursarref14_May.hok : HKOK P bursarref14_May.H := hk_ok e0_ok (rows_ok (ws := [bursarref14_Ref.row, bursarref11_Name.row]) ⟨bursarref14_Ref.row_ok, ⟨bursarref11_Name.row_ok, trivial⟩⟩) (fun g n => noLoops_ok g n) 4
noncomputable def bursarref14_May.f (a : (ByteArray × (ByteArray × (ByteArray × (Int × (Int × (Int × Bool))))))) : Option Bool := (((bursarref11_Name.f ((1 : Int), a.2.2.1))).bind fun (x1 : (ByteArray × Bool)) => (((bursarref11_Name.f ((2 : Int), a.2.1))).bind fun (x2 : (ByteArray × Bool)) => (((bursarref14_Ref.f a.1)).bind fun (x3 : Bool) => (bif x3 then (bif x1.2 then (bif x2.2 then (bif (decide (((0 : Int) ≤ a.2.2.2.2.1))) then (bif (decide ((a.2.2.2.2.1 ≤ a.2.2.2.1))) then (bif (decide (((0 : Int) ≤ a.2.2.2.2.2.1))) then (bif (decide ((a.2.2.2.2.2.1 ≤ (2147483647 : Int)))) then (bif (!a.2.2.2.2.2.2) then (some true) else (some (decide ((a.2.2.2.1 > a.2.2.2.2.1))))) else (some false)) else (some false)) else (some false)) else (some false)) else (some false)) else (some false)) else (some false)))))
theorem bursarref14_May.ok : ∀ a : Vals bursarref14_May.As.tys, fnK P bursarref14_May.H (lp []) 47 bursarref14_May.As bursarref14_May.m a some = bursarref14_May.f a := fun a => by kernel_rfl
noncomputable abbrev bursarref14_May.row : Row := fnRow 47 bursarref14_May.As bursarref14_May.m bursarref14_May.f
theorem bursarref14_May.row_ok : RowOK P G0 bursarref14_May.row := row_told bursarref14_May.hok (lp_of (l := []) trivial) (fun _ => rfl) bursarref14_May.ok
end Go.Proofs.YtbjajidphaeogaaDoor
end
section
/- References, cards, acquirers, and which holds may be: what the code and the document's answer compute. By this session. -/
set_option linter.unusedVariables false
set_option linter.unusedSimpArgs false
namespace Go.Proofs.YtbjajidphaeogaaDoor
open Go Go.Fw
def refC (s : ByteArray) (i : Nat) : Bool := (decide (48 ≤ bt s i) && decide (bt s i ≤ 57)) || (decide (65 ≤ bt s i) && decide (bt s i ≤ 90))
def refB (s : ByteArray) : Bool := s.size == 12 && (List.range s.size).all (refC s)
theorem hold_Ref_is (s : ByteArray) (hs : s.size ≤ 4611686018427387904) : hold_Ref.f s = some (refB s) := by
  have h := rounds_all (t := hold_Ref.t3) (fun i => (s, ((s.size : Int), (i : Int)))) (refC s) (.inl false) (.inr s) s.size (fun i hi => by
    have := bt_bound s i
    have := wrap_up (n := i) (by omega)
    grind [hold_Ref.t3, refC]) (by simp [hold_Ref.t3])
  unfold hold_Ref.f hold_Ref.l3
  rw [show ((0 : Int)) = ((0 : Nat) : Int) from rfl, h]
  unfold refB
  have e : ((s.size : Int) == 12) = (s.size == 12) := by rw [Bool.eq_iff_iff]; simp only [beq_iff_eq]; omega
  cases (List.range s.size).all (refC s) <;> simp [e]
theorem ref_Ref_is (s : ByteArray) : bursarref14_Ref.f s = some (refB s) := by
  unfold bursarref14_Ref.f refB
  by_cases hz : s.size = 12
  · have h := rounds_all (t := bursarref14_Ref.t6) (fun i => (s, (i : Int))) (refC s) (.inl false) (.inr ()) s.size (fun i hi => by
      have := bt_bound s i
      have := wrap_up (n := i) (by omega)
      grind [bursarref14_Ref.t6, refC]) (by simp [bursarref14_Ref.t6, hz])
    have e : ((s.size : Int) != 12) = false := by simp; omega
    have e2 : (s.size == 12) = true := by simp [hz]
    rw [e, e2]
    unfold bursarref14_Ref.l6
    rw [show ((0 : Int)) = ((0 : Nat) : Int) from rfl, h]
    cases (List.range s.size).all (refC s) <;> rfl
  · have e : ((s.size : Int) != 12) = true := by simp; omega
    have e2 : (s.size == 12) = false := by simp [hz]
    rw [e, e2]; rfl
def soundB (s : ByteArray) : Bool := decide (2 ≤ s.size) && (digitsB s && (luhn s % 10 == 0))
def cardB (s : ByteArray) : Bool := s.size == 16 && soundB s
def acqB (s : ByteArray) : Bool := s.size == 6 && digitsB s
theorem size_is {s : ByteArray} (n : Nat) : ((s.size : Int) == (n : Int)) = (s.size == n) := by rw [Bool.eq_iff_iff]; simp only [beq_iff_eq]; omega
theorem card_is (s : ByteArray) : chart_May.f (1, s) = some (cardB s) := by
  have e := size_is (s := s) 16
  unfold chart_May.f cardB
  by_cases h : s.size = 16
  · have := digit_Sound_is s (by omega)
    rw [show ((s.size : Int) == 16) = true from by simp; omega, show (s.size == 16) = true from by simp [h]]
    simp only [this, beq_self_eq_true, cond_true, Option.bind_some, Bool.true_and]
    rfl
  · rw [show ((s.size : Int) == 16) = false from by simp; omega, show (s.size == 16) = false from by simp [h]]
    rfl
theorem acq_is (s : ByteArray) : chart_May.f (2, s) = some (acqB s) := by
  unfold chart_May.f acqB
  by_cases h : s.size = 6
  · have := digit_All_is s (by omega)
    rw [show ((s.size : Int) == 6) = true from by simp; omega, show (s.size == 6) = true from by simp [h]]
    simp [this]
  · rw [show ((s.size : Int) == 6) = false from by simp; omega, show (s.size == 6) = false from by simp [h]]
    rfl
theorem ref_card_is (s : ByteArray) : ∃ t, bursarref11_Name.f (1, s) = some (t, cardB s) := by
  unfold bursarref11_Name.f cardB
  by_cases h : s.size = 16
  · have := ref_Sound_is s (by omega)
    have e : bursarref02_Sound.f s = some (soundB s) := this
    have b1 : Nat.ble (1 + s.size) 9223372036854775807 = true := by rw [h]; rfl
    rw [e, b1, show ((s.size : Int) == 16) = true from by simp; omega, show (s.size == 16) = true from by simp [h]]
    cases soundB s
    · exact ⟨_, rfl⟩
    · exact ⟨_, rfl⟩
  · rw [show ((s.size : Int) == 16) = false from by simp; omega, show (s.size == 16) = false from by simp [h]]
    simp
theorem ref_acq_is (s : ByteArray) : ∃ t, bursarref11_Name.f (2, s) = some (t, acqB s) := by
  unfold bursarref11_Name.f acqB
  by_cases h : s.size = 6
  · have := ref_All_is s (by omega)
    have b1 : Nat.ble (1 + s.size) 9223372036854775807 = true := by rw [h]; rfl
    rw [this, b1, show ((s.size : Int) == 6) = true from by simp; omega, show (s.size == 6) = true from by simp [h]]
    cases digitsB s
    · exact ⟨_, rfl⟩
    · exact ⟨_, rfl⟩
  · rw [show ((s.size : Int) == 6) = false from by simp; omega, show (s.size == 6) = false from by simp [h]]
    simp
/-- a hold as the code has it: its reference, acquirer, card, approved, captured, until, open -/
abbrev Hd := ByteArray × (ByteArray × (ByteArray × (Int × (Int × (Int × Bool)))))
def untilB (n : Int) : Bool := decide (0 ≤ n) && decide (n ≤ 2147483647)
def mayB (h : Hd) : Bool := refB h.1 && (cardB h.2.2.1 && (acqB h.2.1 && (untilB h.2.2.2.2.2.1 && (decide (0 ≤ h.2.2.2.2.1) && (decide (h.2.2.2.2.1 ≤ h.2.2.2.1) && (!h.2.2.2.2.2.2 || decide (h.2.2.2.2.1 < h.2.2.2.1)))))))
theorem until_is (n : Int) : hold_until.f n = some (untilB n) := by
  grind [hold_until.f, untilB]
theorem hold_May_is (h : Hd) (hs : h.1.size ≤ 4611686018427387904) : hold_May.f h = some (mayB h) := by
  unfold hold_May.f mayB
  rw [hold_Ref_is _ hs, card_is, acq_is, until_is]
  cases refB h.1
  · rfl
  cases cardB h.2.2.1
  · rfl
  cases acqB h.2.1
  · rfl
  cases untilB h.2.2.2.2.2.1
  · rfl
  cases h.2.2.2.2.2.2 <;> grind
theorem ref_May_is (h : Hd) : bursarref14_May.f h = some (mayB h) := by
  unfold bursarref14_May.f mayB
  obtain ⟨t, e1⟩ := ref_card_is h.2.2.1
  obtain ⟨u, e2⟩ := ref_acq_is h.2.1
  rw [e1, e2, ref_Ref_is]
  cases refB h.1
  · rfl
  cases cardB h.2.2.1
  · rfl
  cases acqB h.2.1
  · rfl
  unfold untilB
  cases h.2.2.2.2.2.2 <;> grind
end Go.Proofs.YtbjajidphaeogaaDoor
end
section
/- Contracts of the library at this program, in plain words. Written by a tool of the kit.
-/
namespace Go.Proofs
open Go.Shelf
def Tryd.lays105_ren : Go.Shelf.Ren := ⟨fun | 105 => 104 | 212 => 126 | 99 => 127 | 165 => 128 | 166 => 129 | 170 => 130 | 169 => 131 | 263 => 148 | 264 => 54 | 206 => 117 | 240 => 149 | 241 => 150 | 276 => 158 | 277 => 159 | n => n, fun | 9 => 9 | 3 => 3 | 4 => 4 | 20 => 20 | 0 => 0 | 46 => 92 | 109 => 165 | 5 => 5 | 72 => 169 | 76 => 119 | 51 => 178 | 146 => 185 | 53 => 89 | 148 => 90 | 70 => 167 | 37 => 117 | 75 => 114 | 127 => 187 | 164 => 195 | 80 => 172 | n => n, fun | n => n⟩
theorem Tryd.lays105 : Go.Proofs.Lays.n105 Tryd.prog Tryd.lays105_ren := {
  mixed := by kernel_rfl
  f99 := Tryd.func127.trans (congrArg some (by kernel_rfl))
  f105 := Tryd.func104.trans (congrArg some (by kernel_rfl))
  f165 := Tryd.func128.trans (congrArg some (by kernel_rfl))
  f166 := Tryd.func129.trans (congrArg some (by kernel_rfl))
  f169 := Tryd.func131.trans (congrArg some (by kernel_rfl))
  f170 := Tryd.func130.trans (congrArg some (by kernel_rfl))
  f206 := Tryd.func117.trans (congrArg some (by kernel_rfl))
  f212 := Tryd.func126.trans (congrArg some (by kernel_rfl))
  f240 := Tryd.func149.trans (congrArg some (by kernel_rfl))
  f241 := Tryd.func150.trans (congrArg some (by kernel_rfl))
  f263 := Tryd.func148.trans (congrArg some (by kernel_rfl))
  f264 := Tryd.func54.trans (congrArg some (by kernel_rfl))
  f276 := Tryd.func158.trans (congrArg some (by kernel_rfl))
  f277 := Tryd.func159.trans (congrArg some (by kernel_rfl))
  t0 := Tryd.underlying0
  a0 := Tryd.isAgg0
  z0 := Tryd.sizeOf0
  v0 := Tryd.zeroValue0
  t3 := Tryd.underlying3
  a3 := Tryd.isAgg3
  z3 := Tryd.sizeOf3
  v3 := Tryd.zeroValue3
  t4 := Tryd.underlying4
  a4 := Tryd.isAgg4
  z4 := Tryd.sizeOf4
  v4 := Tryd.zeroValue4
  t5 := Tryd.underlying5
  a5 := Tryd.isAgg5
  z5 := Tryd.sizeOf5
  v5 := Tryd.zeroValue5
  t9 := Tryd.underlying9
  a9 := Tryd.isAgg9
  z9 := Tryd.sizeOf9
  v9 := Tryd.zeroValue9
  t20 := Tryd.underlying20
  a20 := Tryd.isAgg20
  z20 := Tryd.sizeOf20
  v20 := Tryd.zeroValue20
  t37 := Tryd.underlying117
  a37 := Tryd.isAgg117
  z37 := Tryd.sizeOf117
  v37 := Tryd.zeroValue117
  t46 := Tryd.underlying92
  a46 := Tryd.isAgg92
  z46 := Tryd.sizeOf92
  v46 := Tryd.zeroValue92
  t51 := Tryd.underlying178
  a51 := Tryd.isAgg178
  z51 := Tryd.sizeOf178
  v51 := Tryd.zeroValue178
  t53 := Tryd.underlying89
  a53 := Tryd.isAgg89
  z53 := Tryd.sizeOf89
  v53 := Tryd.zeroValue89
  t70 := Tryd.underlying167
  a70 := Tryd.isAgg167
  z70 := Tryd.sizeOf167
  v70 := Tryd.zeroValue167
  t72 := Tryd.underlying169
  a72 := Tryd.isAgg169
  z72 := Tryd.sizeOf169
  v72 := Tryd.zeroValue169
  t75 := Tryd.underlying114
  a75 := Tryd.isAgg114
  z75 := Tryd.sizeOf114
  v75 := Tryd.zeroValue114
  t76 := Tryd.underlying119
  a76 := Tryd.isAgg119
  z76 := Tryd.sizeOf119
  v76 := Tryd.zeroValue119
  t109 := Tryd.underlying165
  a109 := Tryd.isAgg165
  z109 := Tryd.sizeOf165
  v109 := Tryd.zeroValue165
  t127 := Tryd.underlying187
  a127 := Tryd.isAgg187
  z127 := Tryd.sizeOf187
  v127 := Tryd.zeroValue187
  t146 := Tryd.underlying185
  a146 := Tryd.isAgg185
  z146 := Tryd.sizeOf185
  v146 := Tryd.zeroValue185
  t148 := Tryd.underlying90
  a148 := Tryd.isAgg90
  z148 := Tryd.sizeOf90
  v148 := Tryd.zeroValue90
  t164 := Tryd.underlying195
  a164 := Tryd.isAgg195
  z164 := Tryd.sizeOf195
  v164 := Tryd.zeroValue195 }
def Tryd.laysC172_ren : Go.Shelf.Ren := ⟨fun | 172 => 74 | 244 => 102 | 245 => 101 | 247 => 125 | 279 => 121 | 280 => 122 | 281 => 123 | 282 => 124 | 287 => 100 | 316 => 146 | 171 => 61 | 205 => 147 | 321 => 119 | 322 => 120 | 243 => 90 | 246 => 110 | 283 => 113 | 284 => 114 | 285 => 115 | 286 => 116 | 129 => 138 | 317 => 137 | 318 => 139 | 319 => 140 | 320 => 141 | 337 => 154 | 338 => 155 | n => n, fun | 9 => 9 | 3 => 3 | 75 => 114 | 76 => 119 | 4 => 4 | 5 => 5 | 167 => 158 | 37 => 117 | 0 => 0 | 85 => 163 | 2 => 2 | 168 => 160 | 53 => 89 | 175 => 115 | 46 => 92 | 210 => 183 | 127 => 187 | 145 => 194 | 143 => 192 | 21 => 21 | 171 => 151 | 173 => 154 | 212 => 177 | 51 => 178 | 20 => 20 | 213 => 179 | 232 => 198 | 233 => 199 | 80 => 172 | n => n, fun | 15 => 2 | 16 => 3 | 17 => 0 | 18 => 4 | 19 => 5 | n => n⟩
theorem Tryd.laysC172 : Go.Proofs.LaysC.n172 Tryd.prog Tryd.laysC172_ren := {
  mixed := by kernel_rfl
  f129 := Tryd.func138.trans (congrArg some (by kernel_rfl))
  f171 := Tryd.func61.trans (congrArg some (by kernel_rfl))
  f172 := Tryd.func74.trans (congrArg some (by kernel_rfl))
  f205 := Tryd.func147.trans (congrArg some (by kernel_rfl))
  f243 := Tryd.func90.trans (congrArg some (by kernel_rfl))
  f244 := Tryd.func102.trans (congrArg some (by kernel_rfl))
  f245 := Tryd.func101.trans (congrArg some (by kernel_rfl))
  f246 := Tryd.func110.trans (congrArg some (by kernel_rfl))
  f247 := Tryd.func125.trans (congrArg some (by kernel_rfl))
  f279 := Tryd.func121.trans (congrArg some (by kernel_rfl))
  f280 := Tryd.func122.trans (congrArg some (by kernel_rfl))
  f281 := Tryd.func123.trans (congrArg some (by kernel_rfl))
  f282 := Tryd.func124.trans (congrArg some (by kernel_rfl))
  f283 := Tryd.func113.trans (congrArg some (by kernel_rfl))
  f284 := Tryd.func114.trans (congrArg some (by kernel_rfl))
  f285 := Tryd.func115.trans (congrArg some (by kernel_rfl))
  f286 := Tryd.func116.trans (congrArg some (by kernel_rfl))
  f287 := Tryd.func100.trans (congrArg some (by kernel_rfl))
  f316 := Tryd.func146.trans (congrArg some (by kernel_rfl))
  f317 := Tryd.func137.trans (congrArg some (by kernel_rfl))
  f318 := Tryd.func139.trans (congrArg some (by kernel_rfl))
  f319 := Tryd.func140.trans (congrArg some (by kernel_rfl))
  f320 := Tryd.func141.trans (congrArg some (by kernel_rfl))
  f321 := Tryd.func119.trans (congrArg some (by kernel_rfl))
  f322 := Tryd.func120.trans (congrArg some (by kernel_rfl))
  f337 := Tryd.func154.trans (congrArg some (by kernel_rfl))
  f338 := Tryd.func155.trans (congrArg some (by kernel_rfl))
  t0 := Tryd.underlying0
  a0 := Tryd.isAgg0
  z0 := Tryd.sizeOf0
  v0 := Tryd.zeroValue0
  t2 := Tryd.underlying2
  a2 := Tryd.isAgg2
  z2 := Tryd.sizeOf2
  v2 := Tryd.zeroValue2
  t3 := Tryd.underlying3
  a3 := Tryd.isAgg3
  z3 := Tryd.sizeOf3
  v3 := Tryd.zeroValue3
  t4 := Tryd.underlying4
  a4 := Tryd.isAgg4
  z4 := Tryd.sizeOf4
  v4 := Tryd.zeroValue4
  t5 := Tryd.underlying5
  a5 := Tryd.isAgg5
  z5 := Tryd.sizeOf5
  v5 := Tryd.zeroValue5
  t9 := Tryd.underlying9
  a9 := Tryd.isAgg9
  z9 := Tryd.sizeOf9
  v9 := Tryd.zeroValue9
  t20 := Tryd.underlying20
  a20 := Tryd.isAgg20
  z20 := Tryd.sizeOf20
  v20 := Tryd.zeroValue20
  t21 := Tryd.underlying21
  a21 := Tryd.isAgg21
  z21 := Tryd.sizeOf21
  v21 := Tryd.zeroValue21
  t37 := Tryd.underlying117
  a37 := Tryd.isAgg117
  z37 := Tryd.sizeOf117
  v37 := Tryd.zeroValue117
  t46 := Tryd.underlying92
  a46 := Tryd.isAgg92
  z46 := Tryd.sizeOf92
  v46 := Tryd.zeroValue92
  t51 := Tryd.underlying178
  a51 := Tryd.isAgg178
  z51 := Tryd.sizeOf178
  v51 := Tryd.zeroValue178
  t53 := Tryd.underlying89
  a53 := Tryd.isAgg89
  z53 := Tryd.sizeOf89
  v53 := Tryd.zeroValue89
  t75 := Tryd.underlying114
  a75 := Tryd.isAgg114
  z75 := Tryd.sizeOf114
  v75 := Tryd.zeroValue114
  t76 := Tryd.underlying119
  a76 := Tryd.isAgg119
  z76 := Tryd.sizeOf119
  v76 := Tryd.zeroValue119
  t85 := Tryd.underlying163
  a85 := Tryd.isAgg163
  z85 := Tryd.sizeOf163
  v85 := Tryd.zeroValue163
  t127 := Tryd.underlying187
  a127 := Tryd.isAgg187
  z127 := Tryd.sizeOf187
  v127 := Tryd.zeroValue187
  t143 := Tryd.underlying192
  a143 := Tryd.isAgg192
  z143 := Tryd.sizeOf192
  v143 := Tryd.zeroValue192
  t145 := Tryd.underlying194
  a145 := Tryd.isAgg194
  z145 := Tryd.sizeOf194
  v145 := Tryd.zeroValue194
  t167 := Tryd.underlying158
  a167 := Tryd.isAgg158
  z167 := Tryd.sizeOf158
  v167 := Tryd.zeroValue158
  t168 := Tryd.underlying160
  a168 := Tryd.isAgg160
  z168 := Tryd.sizeOf160
  v168 := Tryd.zeroValue160
  t171 := Tryd.underlying151
  a171 := Tryd.isAgg151
  z171 := Tryd.sizeOf151
  v171 := Tryd.zeroValue151
  t173 := Tryd.underlying154
  a173 := Tryd.isAgg154
  z173 := Tryd.sizeOf154
  v173 := Tryd.zeroValue154
  t175 := Tryd.underlying115
  a175 := Tryd.isAgg115
  z175 := Tryd.sizeOf115
  v175 := Tryd.zeroValue115
  t210 := Tryd.underlying183
  a210 := Tryd.isAgg183
  z210 := Tryd.sizeOf183
  v210 := Tryd.zeroValue183
  t212 := Tryd.underlying177
  a212 := Tryd.isAgg177
  z212 := Tryd.sizeOf177
  v212 := Tryd.zeroValue177
  t213 := Tryd.underlying179
  a213 := Tryd.isAgg179
  z213 := Tryd.sizeOf179
  t232 := Tryd.underlying198
  a232 := Tryd.isAgg198
  z232 := Tryd.sizeOf198
  v232 := Tryd.zeroValue198
  t233 := Tryd.underlying199
  a233 := Tryd.isAgg199
  z233 := Tryd.sizeOf199
  v233 := Tryd.zeroValue199
  g15 := by kernel_rfl
  g16 := by kernel_rfl
  g17 := by kernel_rfl
  g18 := by kernel_rfl
  g19 := by kernel_rfl
  t80 := Tryd.underlying172
  a80 := Tryd.isAgg172
  z80 := Tryd.sizeOf172
  v80 := Tryd.zeroValue172
  i0 := by kernel_rfl
  i2 := by kernel_rfl
  i3 := by kernel_rfl
  i4 := by kernel_rfl
  i5 := by kernel_rfl
  i9 := by kernel_rfl
  i20 := by kernel_rfl
  i21 := by kernel_rfl
  i37 := by kernel_rfl
  i46 := by kernel_rfl
  i51 := by kernel_rfl
  i53 := by kernel_rfl
  i75 := by kernel_rfl
  i76 := by kernel_rfl
  i80 := by kernel_rfl
  i85 := by kernel_rfl
  i127 := by kernel_rfl
  i143 := by kernel_rfl
  i145 := by kernel_rfl
  i167 := by kernel_rfl
  i168 := by kernel_rfl
  i171 := by kernel_rfl
  i173 := by kernel_rfl
  i175 := by kernel_rfl
  i210 := by kernel_rfl
  i212 := by kernel_rfl
  i232 := by kernel_rfl
  i233 := by kernel_rfl
  m15 := by kernel_rfl
  m16 := by kernel_rfl
  m17 := by kernel_rfl
  m18 := by kernel_rfl
  m19 := by kernel_rfl
  c0 := by kernel_rfl
  c2 := by kernel_rfl
  c3 := by kernel_rfl
  c4 := by kernel_rfl
  c5 := by kernel_rfl
  c9 := by kernel_rfl
  c20 := by kernel_rfl
  c21 := by kernel_rfl
  c37 := by kernel_rfl
  c46 := by kernel_rfl
  c51 := by kernel_rfl
  c53 := by kernel_rfl
  c75 := by kernel_rfl
  c76 := by kernel_rfl
  c80 := by kernel_rfl
  c85 := by kernel_rfl
  c127 := by kernel_rfl
  c143 := by kernel_rfl
  c145 := by kernel_rfl
  c167 := by kernel_rfl
  c168 := by kernel_rfl
  c171 := by kernel_rfl
  c173 := by kernel_rfl
  c175 := by kernel_rfl
  c210 := by kernel_rfl
  c212 := by kernel_rfl
  c213 := by kernel_rfl
  c232 := by kernel_rfl
  c233 := by kernel_rfl }
end Go.Proofs
end
section
/- strconv.Atoi, as a row, by the library's contracts. By this session. -/
set_option linter.unusedVariables false
namespace Go.Proofs.YtbjajidphaeogaaDoor
open Go Go.Fw Go.RowKit Go.Shelf
def atoiU (l : List UInt8) : Int × Bool := match Lib.atoiAll l with
  | .ok v => (v, false)
  | .«syntax» => (0, true)
  | .range => (Lib.atoiSat l, true)
abbrev strconv_Atoi.As : Shs := .cons (.x .s) .nil
abbrev strconv_Atoi.m : Back := [(false, .i .i64), (false, .e)]
abbrev strconv_Atoi.f (a : ByteArray) : Option (Int × Bool) := bif decide (a.size ≤ 281474976710656) then some (atoiU a.data.toList) else none
noncomputable abbrev strconv_Atoi.row : Row := fnRow 74 strconv_Atoi.As strconv_Atoi.m strconv_Atoi.f
theorem atoi_bytes_below (w : World) (t : TypeId) (s : ByteArray) : Below w.heap.size w (Lib.bytesWorld w t s) := by
  unfold Lib.bytesWorld World.freeze
  rw [if_neg (by decide)]
  refine ⟨rfl, rfl, rfl, by simp, fun k hk => ?_⟩
  show ((w.heap.push _).modify _ _)[k]? = _
  rw [Array.getElem?_modify, if_neg (by show ¬ w.heap.size = k; omega), Array.getElem?_push, if_neg (by omega)]
theorem strconv_Atoi.row_ok : RowOK P G1 strconv_Atoi.row := by
  have key : ∀ (ds : List D) (a : ByteArray) (q : Int × Bool), decArgs strconv_Atoi.As ds = some a → strconv_Atoi.f a = some q → Fw.Enters P 74 ∧ PCall P G1 74 ds (.tp [.i .i64 q.1, .er q.2]) := by
    intro ds a q ha hq
    refine ⟨ent_of Tryd.func74 (by kernel_rfl) (by kernel_rfl), ?_⟩
    have hds := (decArgs_argD ha).symm
    refine PCall.coe (ds' := argD strconv_Atoi.As a) ?_ (by rw [← hds]; exact coeA_len) fun w I f hf => by rw [← hds]; exact coeA_rel hf
    refine pcall_below fun w I K vs hg hsz hr => ?_
    have h0 := hr 0 (.s a) rfl
    have hvs : vs = #[.string a] := by
      have hs : vs.size = 1 := hsz
      rw [Array.getD_eq_getD_getElem?, Array.getElem?_eq_getElem (by omega)] at h0
      simp only [Option.getD_some] at h0
      refine Array.ext (by simpa using hs) fun i hi hi' => ?_
      match i, hi with
      | 0, _ => cases h : vs[0] <;> rw [h] at h0 <;> cases h0; rfl
      | i + 1, hi => omega
    subst hvs
    unfold strconv_Atoi.f at hq
    obtain ⟨hb, hq⟩ := cond_some hq
    simp only [decide_eq_true_eq] at hb
    injection hq with hq
    subst hq
    unfold atoiU
    have tup : ∀ (w' : World) (n : Int) (b : Bool) (v : Value), RelD w' I (.er b) v → RelX w' I K (.tp [.i .i64 n, .er b]) (.tuple #[.int .i64 n, v]) := fun w' n b v hv => ⟨_, rfl, RelD.i .i64 n, ⟨hv, trivial, fun b h => by cases b <;> cases h⟩, fun b h => by cases h⟩
    cases hp : Lib.atoiAll a.data.toList with
    | ok u =>
      refine (Any.strconv_Atoi_ok Tryd.laysC172 a (by omega) u hp w).mono ?_
      rintro e w' ⟨rfl, hw⟩
      refine ⟨_, rfl, ?_, tup w' u false _ .er0⟩
      rcases hw with rfl | ⟨t, rfl⟩
      · exact .refl _ _
      · exact atoi_bytes_below _ _ _
    | «syntax» =>
      obtain ⟨tp, p, hv⟩ := err_of_glob (P := P) hg (g := 2) (name := "strconv.ErrSyntax") (by kernel_rfl) rfl
      refine (Any.strconv_Atoi_syntax_var Tryd.laysC172 a hb hp tp p w hv).mono ?_
      rintro e w' ⟨N, rfl, _, _, hb⟩
      exact ⟨_, rfl, hb, tup w' 0 true _ (.er1 _ _)⟩
    | range =>
      obtain ⟨tp, p, hv⟩ := err_of_glob (P := P) hg (g := 3) (name := "strconv.ErrRange") (by kernel_rfl) rfl
      refine (Any.strconv_Atoi_range_var Tryd.laysC172 a hb hp tp p w hv).mono ?_
      rintro e w' ⟨N, rfl, _, _, hb⟩
      exact ⟨_, rfl, hb, tup w' _ true _ (.er1 _ _)⟩
  exact fun ds a q => key ds a q
end Go.Proofs.YtbjajidphaeogaaDoor
end
section
/- strings.Repeat, as a row, by the library's contracts. By this session. -/
set_option linter.unusedVariables false
namespace Go.Proofs.YtbjajidphaeogaaDoor
open Go Go.Fw Go.RowKit Go.Shelf
theorem repExtra : Builder.Extra P Tryd.lays105_ren where
  sizeBuilder := by kernel_rfl
  liesBuilder := by kernel_rfl
  t5 := Tryd.lays105.t5
  a5 := Tryd.lays105.a5
  z5 := Tryd.lays105.z5
  v5 := Tryd.lays105.v5
  infoByte := by kernel_rfl
  cellsByte := by kernel_rfl
  sizeByte := by kernel_rfl
  neB5 := by decide
def repeatT (s : ByteArray) (n : Int) : Option ByteArray := bif decide (0 ≤ n) && (decide (n ≤ 140737488355328) && decide (s.size * n.toNat ≤ 140737488355328)) then some ⟨(Lib.repeatL s.data.toList n.toNat).toArray⟩ else none
abbrev strings_Repeat.As : Shs := .cons (.x .s) (.cons (.x (.i .i64)) .nil)
abbrev strings_Repeat.m : Back := [(false, .s)]
abbrev strings_Repeat.f (a : (ByteArray × Int)) : Option ByteArray := repeatT a.1 a.2
noncomputable abbrev strings_Repeat.row : Row := fnRow 104 strings_Repeat.As strings_Repeat.m strings_Repeat.f
theorem strings_Repeat.row_ok : RowOK P G0 strings_Repeat.row := by
  have key : ∀ (ds : List D) (a : ByteArray × Int) (q : ByteArray), decArgs strings_Repeat.As ds = some a → strings_Repeat.f a = some q → Fw.Enters P 104 ∧ PCall P G0 104 ds (.s q) := by
    intro ds a q ha hq
    refine ⟨ent_of Tryd.func104 (by kernel_rfl) (by kernel_rfl), ?_⟩
    have hds := (decArgs_argD ha).symm
    refine PCall.coe (ds' := argD strings_Repeat.As a) ?_ (by rw [← hds]; exact coeA_len) fun w I f hf => by rw [← hds]; exact coeA_rel hf
    refine pcall_below fun w I K vs hg hsz hr => ?_
    have h0 := hr 0 (.s a.1) rfl
    have h1 := hr 1 (.i .i64 a.2) rfl
    have hvs : vs = #[.string a.1, .int .i64 a.2] := by
      have hs : vs.size = 2 := hsz
      rw [Array.getD_eq_getD_getElem?, Array.getElem?_eq_getElem (by omega)] at h0 h1
      simp only [Option.getD_some] at h0 h1
      refine Array.ext (by simpa using hs) fun i hi hi' => ?_
      match i, hi with
      | 0, _ => cases h : vs[0] <;> rw [h] at h0 <;> cases h0; rfl
      | 1, _ => cases h : vs[1] <;> rw [h] at h1 <;> cases h1; rfl
      | i + 2, hi => omega
    subst hvs
    unfold strings_Repeat.f repeatT at hq
    obtain ⟨hb, hq⟩ := cond_some hq
    simp only [Bool.and_eq_true, decide_eq_true_eq] at hb
    obtain ⟨h2, h3, h4⟩ := hb
    injection hq with hq
    subst hq
    obtain ⟨u, hu⟩ : ∃ u : Nat, a.2 = u := ⟨a.2.toNat, by omega⟩
    rw [hu] at h2 h3 h4 ⊢
    rw [Int.toNat_natCast] at h4 ⊢
    refine (Any.strings_Repeat Tryd.lays105 repExtra a.1 u w (by omega) h4).mono ?_
    rintro e w' ⟨rfl, hb⟩
    exact ⟨_, rfl, hb, RelD.s _⟩
  exact fun ds a q => key ds a q
end Go.Proofs.YtbjajidphaeogaaDoor
end
section
/- The Go function digit.Put, as a Lean function, and that it is this one. Written by a program of this session. -/
set_option linter.unusedVariables false
set_option maxRecDepth 100000
namespace Go.Proofs.YtbjajidphaeogaaDoor
open Go Go.Fw
abbrev digit_Put.As : Shs := (.cons (.x (.i .u64)) (.cons (.x (.i .i64)) .nil))
abbrev digit_Put.m : Back := [(false, .s), (false, (.i .i64))]
noncomputable abbrev digit_Put.H : HK := hk P G0 E0 [strconv_FormatUint.row, strings_Repeat.row] noLoops 4
theorem digit_Put.hok : HKOK P digit_Put.H := hk_ok e0_ok (rows_ok (ws := [strconv_FormatUint.row, strings_Repeat.row]) ⟨strconv_FormatUint.row_ok, ⟨strings_Repeat.row_ok, trivial⟩⟩) (fun g n => noLoops_ok g n) 4
noncomputable def digit_Put.f (a : (Int × Int)) : Option (ByteArray × Int) := (bif (decide ((a.2 < (1 : Int)))) then (some ((bs []), (1 : Int))) else (bif (decide ((a.2 > (19 : Int)))) then (some ((bs []), (1 : Int))) else (((strconv_FormatUint.f (a.1, (10 : Int)))).bind fun (x2 : ByteArray) => (bif (decide (((x2.size : Int) > a.2))) then (some ((bs []), (2 : Int))) else (((strings_Repeat.f ((bs [48]), (IntKind.wrap .i64 (a.2 - (x2.size : Int)))))).bind fun (x3 : ByteArray) => (bif (Nat.ble (x3.size + x2.size) 9223372036854775807) then (some ((x3 ++ x2), (0 : Int))) else none))))))
theorem digit_Put.ok : ∀ a : Vals digit_Put.As.tys, fnK P digit_Put.H (lp []) 77 digit_Put.As digit_Put.m a some = digit_Put.f a := fun a => by kernel_rfl
noncomputable abbrev digit_Put.row : Row := fnRow 77 digit_Put.As digit_Put.m digit_Put.f
theorem digit_Put.row_ok : RowOK P G0 digit_Put.row := row_told digit_Put.hok (lp_of (l := []) trivial) (fun _ => rfl) digit_Put.ok
end Go.Proofs.YtbjajidphaeogaaDoor
end
section
/- The Go function hold.Text, as a Lean function, and that it is this one. Written by a program of this session. -/
set_option linter.unusedVariables false
set_option maxRecDepth 100000
namespace Go.Proofs.YtbjajidphaeogaaDoor
open Go Go.Fw
abbrev hold_Text.As : Shs := (.cons (.x T_api_Hold) .nil)
abbrev hold_Text.m : Back := [(false, .s), (false, (.i .i64))]
noncomputable abbrev hold_Text.H : HK := hk P G0 E0 [money_Text.row, hold_May.row, digit_Put.row] noLoops 4
theorem hold_Text.hok : HKOK P hold_Text.H := hk_ok e0_ok (rows_ok (ws := [money_Text.row, hold_May.row, digit_Put.row]) ⟨money_Text.row_ok, ⟨hold_May.row_ok, ⟨digit_Put.row_ok, trivial⟩⟩⟩) (fun g n => noLoops_ok g n) 4
noncomputable def hold_Text.f (a : (ByteArray × (ByteArray × (ByteArray × (Int × (Int × (Int × Bool))))))) : Option (ByteArray × Int) := (((hold_May.f a)).bind fun (x1 : Bool) => (bif (!x1) then (some ((bs []), (1 : Int))) else (((digit_Put.f ((IntKind.wrap .u64 a.2.2.2.2.2.1), (10 : Int)))).bind fun (x2 : (ByteArray × Int)) => (bif a.2.2.2.2.2.2 then (bif (Nat.ble (a.1.size + a.2.1.size) 9223372036854775807) then (bif (Nat.ble ((a.1 ++ a.2.1).size + a.2.2.1.size) 9223372036854775807) then (bif (Nat.ble (((a.1 ++ a.2.1) ++ a.2.2.1).size + x2.1.size) 9223372036854775807) then (bif (Nat.ble ((((a.1 ++ a.2.1) ++ a.2.2.1) ++ x2.1).size + 1) 9223372036854775807) then (((money_Text.f a.2.2.2.1)).bind fun (x3 : ByteArray) => (bif (Nat.ble (((((a.1 ++ a.2.1) ++ a.2.2.1) ++ x2.1) ++ (bs [111])).size + x3.size) 9223372036854775807) then (bif (Nat.ble ((((((a.1 ++ a.2.1) ++ a.2.2.1) ++ x2.1) ++ (bs [111])) ++ x3).size + 1) 9223372036854775807) then (((money_Text.f a.2.2.2.2.1)).bind fun (x4 : ByteArray) => (bif (Nat.ble (((((((a.1 ++ a.2.1) ++ a.2.2.1) ++ x2.1) ++ (bs [111])) ++ x3) ++ (bs [32])).size + x4.size) 9223372036854775807) then (some ((((((((a.1 ++ a.2.1) ++ a.2.2.1) ++ x2.1) ++ (bs [111])) ++ x3) ++ (bs [32])) ++ x4), (0 : Int))) else none)) else none) else none)) else none) else none) else none) else none) else (bif (Nat.ble (a.1.size + a.2.1.size) 9223372036854775807) then (bif (Nat.ble ((a.1 ++ a.2.1).size + a.2.2.1.size) 9223372036854775807) then (bif (Nat.ble (((a.1 ++ a.2.1) ++ a.2.2.1).size + x2.1.size) 9223372036854775807) then (bif (Nat.ble ((((a.1 ++ a.2.1) ++ a.2.2.1) ++ x2.1).size + 1) 9223372036854775807) then (((money_Text.f a.2.2.2.1)).bind fun (x3 : ByteArray) => (bif (Nat.ble (((((a.1 ++ a.2.1) ++ a.2.2.1) ++ x2.1) ++ (bs [99])).size + x3.size) 9223372036854775807) then (bif (Nat.ble ((((((a.1 ++ a.2.1) ++ a.2.2.1) ++ x2.1) ++ (bs [99])) ++ x3).size + 1) 9223372036854775807) then (((money_Text.f a.2.2.2.2.1)).bind fun (x4 : ByteArray) => (bif (Nat.ble (((((((a.1 ++ a.2.1) ++ a.2.2.1) ++ x2.1) ++ (bs [99])) ++ x3) ++ (bs [32])).size + x4.size) 9223372036854775807) then (some ((((((((a.1 ++ a.2.1) ++ a.2.2.1) ++ x2.1) ++ (bs [99])) ++ x3) ++ (bs [32])) ++ x4), (0 : Int))) else none)) else none) else none)) else none) else none) else none) else none)))))
theorem hold_Text.ok : ∀ a : Vals hold_Text.As.tys, fnK P hold_Text.H (lp []) 46 hold_Text.As hold_Text.m a some = hold_Text.f a := fun a => by kernel_rfl
noncomputable abbrev hold_Text.row : Row := fnRow 46 hold_Text.As hold_Text.m hold_Text.f
theorem hold_Text.row_ok : RowOK P G0 hold_Text.row := row_told hold_Text.hok (lp_of (l := []) trivial) (fun _ => rfl) hold_Text.ok
end Go.Proofs.YtbjajidphaeogaaDoor
end
section
/- The Go function bursarref02.Put, as a Lean function, and that it is this one. Written by a program of this session. -/
set_option linter.unusedVariables false
set_option maxRecDepth 100000
namespace Go.Proofs.YtbjajidphaeogaaDoor
open Go Go.Fw
abbrev bursarref02_Put.As : Shs := (.cons (.x (.i .u64)) (.cons (.x (.i .i64)) .nil))
abbrev bursarref02_Put.m : Back := [(false, .s), (false, .b)]
noncomputable abbrev bursarref02_Put.H : HK := hk P G0 E0 [] noLoops 4
theorem bursarref02_Put.hok : HKOK P bursarref02_Put.H := hk_ok e0_ok (rows_ok (ws := []) trivial) (fun g n => noLoops_ok g n) 4
abbrev bursarref02_Put.sh4 : SSh := ⟨[(0, (.x (.i .u64))), (1, (.x (.i .i64))), (6, (.x .s)), (7, (.x (.i .i64)))], []⟩
abbrev bursarref02_Put.os4 : PEnds := [((.exit 0), ⟨[(0, (.x (.i .u64))), (6, (.x .s))], []⟩)]
noncomputable def bursarref02_Put.t4 (s : (Int × (Int × (ByteArray × Int)))) : Option ((Int × (Int × (ByteArray × Int))) ⊕ ((Int × ByteArray))) := (bif (decide ((s.2.2.2 < s.2.1))) then (bif (Nat.ble ((ByteArray.mk (List.toArray (List.map (fun y4 => (UInt8.ofNat (Int.toNat y4))) ((IntKind.wrap .u8 (IntKind.wrap .u64 ((48 : Int) + (Int.tmod s.1 (10 : Int))))) :: [])))).size + s.2.2.1.size) 9223372036854775807) then (some (.inl ((IntKind.wrap .u64 (Int.tdiv s.1 (10 : Int))), (s.2.1, (((ByteArray.mk (List.toArray (List.map (fun y4 => (UInt8.ofNat (Int.toNat y4))) ((IntKind.wrap .u8 (IntKind.wrap .u64 ((48 : Int) + (Int.tmod s.1 (10 : Int))))) :: [])))) ++ s.2.2.1), (IntKind.wrap .i64 (s.2.2.2 + (1 : Int)))))))) else none) else (some (.inr (s.1, s.2.2.1))))
theorem bursarref02_Put.t4_ok : ∀ s : Vals bursarref02_Put.sh4.tys, turnK P bursarref02_Put.H (lp []) (bodyAt (codeOf P 108) 4) 0 bursarref02_Put.sh4 bursarref02_Put.os4 s some = bursarref02_Put.t4 s := fun s => by kernel_rfl
noncomputable def bursarref02_Put.l4 : (Int × (Int × (ByteArray × Int))) → Option ((Int × ByteArray)) := rounds bursarref02_Put.t4
noncomputable def bursarref02_Put.f (a : (Int × Int)) : Option (ByteArray × Bool) := (((bursarref02_Put.l4 (a.1, (a.2, ((bs []), (0 : Int)))))).bind fun (x2 : (Int × ByteArray)) => (some (x2.2, (x2.1 == (0 : Int)))))
theorem bursarref02_Put.ok : ∀ a : Vals bursarref02_Put.As.tys, fnK P bursarref02_Put.H (lp [(4, NodeT.summ ⟨bursarref02_Put.sh4, bursarref02_Put.os4, bursarref02_Put.l4⟩ 0)]) 108 bursarref02_Put.As bursarref02_Put.m a some = bursarref02_Put.f a := fun a => by kernel_rfl
noncomputable abbrev bursarref02_Put.row : Row := fnRow 108 bursarref02_Put.As bursarref02_Put.m bursarref02_Put.f
theorem bursarref02_Put.row_ok : RowOK P G0 bursarref02_Put.row := row_told bursarref02_Put.hok (lp_of (l := [(4, NodeT.summ ⟨bursarref02_Put.sh4, bursarref02_Put.os4, bursarref02_Put.l4⟩ 0)]) ⟨loop_sum bursarref02_Put.hok (by kernel_rfl) (by kernel_rfl) (l := []) trivial bursarref02_Put.sh4 bursarref02_Put.os4 (by kernel_rfl) bursarref02_Put.t4 bursarref02_Put.t4_ok, trivial⟩) (fun _ => rfl) bursarref02_Put.ok
end Go.Proofs.YtbjajidphaeogaaDoor
end
section
/- The Go function bursarref02.Of, as a Lean function, and that it is this one. Written by a program of this session. -/
set_option linter.unusedVariables false
set_option maxRecDepth 100000
namespace Go.Proofs.YtbjajidphaeogaaDoor
open Go Go.Fw
abbrev bursarref02_Of.As : Shs := (.cons (.x (.i .u64)) (.cons (.x (.i .i64)) .nil))
abbrev bursarref02_Of.m : Back := [(false, .s)]
noncomputable abbrev bursarref02_Of.H : HK := hk P G0 E0 [bursarref02_Put.row] noLoops 4
theorem bursarref02_Of.hok : HKOK P bursarref02_Of.H := hk_ok e0_ok (rows_ok (ws := [bursarref02_Put.row]) ⟨bursarref02_Put.row_ok, trivial⟩) (fun g n => noLoops_ok g n) 4
noncomputable def bursarref02_Of.f (a : (Int × Int)) : Option ByteArray := (((bursarref02_Put.f a)).bind fun (x2 : (ByteArray × Bool)) => (some x2.1))
theorem bursarref02_Of.ok : ∀ a : Vals bursarref02_Of.As.tys, fnK P bursarref02_Of.H (lp []) 82 bursarref02_Of.As bursarref02_Of.m a some = bursarref02_Of.f a := fun a => by kernel_rfl
noncomputable abbrev bursarref02_Of.row : Row := fnRow 82 bursarref02_Of.As bursarref02_Of.m bursarref02_Of.f
theorem bursarref02_Of.row_ok : RowOK P G0 bursarref02_Of.row := row_told bursarref02_Of.hok (lp_of (l := []) trivial) (fun _ => rfl) bursarref02_Of.ok
end Go.Proofs.YtbjajidphaeogaaDoor
end
section
/- The Go function bursarref14.Text, as a Lean function, and that it is this one. Written by a program of this session. -/
set_option linter.unusedVariables false
set_option maxRecDepth 100000
namespace Go.Proofs.YtbjajidphaeogaaDoor
open Go Go.Fw
abbrev bursarref14_Text.As : Shs := (.cons (.x T_api_Hold) .nil)
abbrev bursarref14_Text.m : Back := [(false, .s)]
noncomputable abbrev bursarref14_Text.H : HK := hk P G0 E0 [bursarref01_Text.row, bursarref02_Of.row] noLoops 4
theorem bursarref14_Text.hok : HKOK P bursarref14_Text.H := hk_ok e0_ok (rows_ok (ws := [bursarref01_Text.row, bursarref02_Of.row]) ⟨bursarref01_Text.row_ok, ⟨bursarref02_Of.row_ok, trivial⟩⟩) (fun g n => noLoops_ok g n) 4
noncomputable def bursarref14_Text.f (a : (ByteArray × (ByteArray × (ByteArray × (Int × (Int × (Int × Bool))))))) : Option ByteArray := (bif (Nat.ble (a.1.size + a.2.1.size) 9223372036854775807) then (bif (Nat.ble ((a.1 ++ a.2.1).size + a.2.2.1.size) 9223372036854775807) then (((bursarref02_Of.f ((IntKind.wrap .u64 a.2.2.2.2.2.1), (10 : Int)))).bind fun (x1 : ByteArray) => (bif (Nat.ble (((a.1 ++ a.2.1) ++ a.2.2.1).size + x1.size) 9223372036854775807) then (bif a.2.2.2.2.2.2 then (bif (Nat.ble ((((a.1 ++ a.2.1) ++ a.2.2.1) ++ x1).size + 1) 9223372036854775807) then (((bursarref01_Text.f a.2.2.2.1)).bind fun (x2 : ByteArray) => (bif (Nat.ble (((((a.1 ++ a.2.1) ++ a.2.2.1) ++ x1) ++ (bs [111])).size + x2.size) 9223372036854775807) then (bif (Nat.ble ((((((a.1 ++ a.2.1) ++ a.2.2.1) ++ x1) ++ (bs [111])) ++ x2).size + 1) 9223372036854775807) then (((bursarref01_Text.f a.2.2.2.2.1)).bind fun (x3 : ByteArray) => (bif (Nat.ble (((((((a.1 ++ a.2.1) ++ a.2.2.1) ++ x1) ++ (bs [111])) ++ x2) ++ (bs [32])).size + x3.size) 9223372036854775807) then (some (((((((a.1 ++ a.2.1) ++ a.2.2.1) ++ x1) ++ (bs [111])) ++ x2) ++ (bs [32])) ++ x3)) else none)) else none) else none)) else none) else (bif (Nat.ble ((((a.1 ++ a.2.1) ++ a.2.2.1) ++ x1).size + 1) 9223372036854775807) then (((bursarref01_Text.f a.2.2.2.1)).bind fun (x2 : ByteArray) => (bif (Nat.ble (((((a.1 ++ a.2.1) ++ a.2.2.1) ++ x1) ++ (bs [99])).size + x2.size) 9223372036854775807) then (bif (Nat.ble ((((((a.1 ++ a.2.1) ++ a.2.2.1) ++ x1) ++ (bs [99])) ++ x2).size + 1) 9223372036854775807) then (((bursarref01_Text.f a.2.2.2.2.1)).bind fun (x3 : ByteArray) => (bif (Nat.ble (((((((a.1 ++ a.2.1) ++ a.2.2.1) ++ x1) ++ (bs [99])) ++ x2) ++ (bs [32])).size + x3.size) 9223372036854775807) then (some (((((((a.1 ++ a.2.1) ++ a.2.2.1) ++ x1) ++ (bs [99])) ++ x2) ++ (bs [32])) ++ x3)) else none)) else none) else none)) else none)) else none)) else none) else none)
theorem bursarref14_Text.ok : ∀ a : Vals bursarref14_Text.As.tys, fnK P bursarref14_Text.H (lp []) 49 bursarref14_Text.As bursarref14_Text.m a some = bursarref14_Text.f a := fun a => by kernel_rfl
noncomputable abbrev bursarref14_Text.row : Row := fnRow 49 bursarref14_Text.As bursarref14_Text.m bursarref14_Text.f
theorem bursarref14_Text.row_ok : RowOK P G0 bursarref14_Text.row := row_told bursarref14_Text.hok (lp_of (l := []) trivial) (fun _ => rfl) bursarref14_Text.ok
end Go.Proofs.YtbjajidphaeogaaDoor
end
section
/- A hold's text: what the code and the document's answer make of it. By this session. -/
set_option linter.unusedVariables false
set_option linter.unusedSimpArgs false
namespace Go.Proofs.YtbjajidphaeogaaDoor
open Go Go.Fw
/-- digits, as many as are wanted -/
def padD : Nat → Nat → List UInt8
  | 0, _ => []
  | k + 1, n => padD k (n / 10) ++ [dgt (n % 10)]
theorem padD_len : ∀ k n, (padD k n).length = k
  | 0, _ => rfl
  | k + 1, n => by simp [padD, padD_len k]
theorem padD_zero : ∀ k, padD k 0 = List.replicate k 48
  | 0 => rfl
  | k + 1 => by
    rw [padD, show 0 / 10 = 0 by rfl, padD_zero k, List.replicate_succ']
    rfl
theorem padD_decP : ∀ (k m n : Nat), n < 10 ^ k → k ≤ m → padD k n = List.replicate (k - (decP m n).length) 48 ++ decP m n
  | 0, m, n, h, _ => by
    have : n = 0 := by simpa using h
    subst this
    cases m <;> simp [padD, decP]
  | k + 1, 0, n, _, h => by omega
  | k + 1, m + 1, n, h, hk => by
    unfold decP
    split
    · rename_i h0; subst h0
      rw [padD_zero]; simp
    · rw [padD, padD_decP k m (n / 10) (by have : 10 ^ (k + 1) = 10 ^ k * 10 := Nat.pow_succ ..; omega) (by omega)]
      simp
theorem padD_dig : ∀ (k n : Nat) (c : UInt8), c ∈ padD k n → 48 ≤ c.toNat ∧ c.toNat ≤ 57
  | 0, _, c, h => by simp [padD] at h
  | k + 1, n, c, h => by
    unfold padD at h
    rcases List.mem_append.1 h with h | h
    · exact padD_dig k _ c h
    · rw [List.mem_singleton.1 h, dgt_nat (by omega)]; omega
theorem repeat_one (c : UInt8) : ∀ n, Lib.repeatL [c] n = List.replicate n c
  | 0 => rfl
  | n + 1 => by rw [Lib.repeatL, repeat_one c n]; rfl
theorem Put_is {n : Nat} (h : n < 10000000000) : digit_Put.f ((n : Int), 10) = some (bs (padD 10 n), 0) := by
  have hf : strconv_FormatUint.f ((n : Int), 10) = some (bs (decF 20 n)) := fmtU_is (by omega)
  have hd : decF 20 n = decP 19 (n / 10) ++ [dgt (n % 10)] := decF_decP 19 n (by omega)
  have hp : padD 10 n = List.replicate (9 - (decP 19 (n / 10)).length) 48 ++ decP 19 (n / 10) ++ [dgt (n % 10)] := by
    rw [padD, padD_decP 9 19 (n / 10) (by omega) (by omega)]
  have hlen : (decP 19 (n / 10)).length ≤ 9 := by
    have := congrArg List.length (padD_decP 9 19 (n / 10) (by omega) (by omega))
    rw [padD_len] at this
    simp at this
    omega
  rw [hd] at hf
  obtain ⟨l, hl⟩ : ∃ l, decP 19 (n / 10) = l := ⟨_, rfl⟩
  rw [hl] at hf hp hlen
  unfold digit_Put.f
  rw [hf, Option.bind_some, hp]
  have g1 : ¬ (10 : Int) < 1 := by omega
  have g2 : ¬ (10 : Int) > 19 := by omega
  have g3 : ¬ ((l ++ [dgt (n % 10)]).length : Int) > 10 := by simp; omega
  simp only [bs_size, g1, g2, g3, decide_false, cond_false]
  have e1 : IntKind.wrap .i64 (10 - ((l ++ [dgt (n % 10)]).length : Int)) = ((9 - l.length : Nat) : Int) := by
    rw [wrap_i64 (by simp; omega) (by simp; omega)]; simp; omega
  have hr : strings_Repeat.f (bs [48], ((9 - l.length : Nat) : Int)) = some (bs (List.replicate (9 - l.length) 48)) := by
    show repeatT _ _ = _
    unfold repeatT
    have h1 : (0 : Int) ≤ ((9 - l.length : Nat) : Int) := by omega
    have h2 : ((9 - l.length : Nat) : Int) ≤ 140737488355328 := by omega
    have h3 : (bs [48]).size * (((9 - l.length : Nat) : Int)).toNat ≤ 140737488355328 := by rw [bs_size, Int.toNat_natCast]; simp; omega
    rw [decide_eq_true h1, decide_eq_true h2, decide_eq_true h3, Int.toNat_natCast, bs_list, repeat_one]
    rfl
  rw [e1, hr, Option.bind_some]
  simp only [bs_size, bs_append]
  rw [Nat.ble_eq_true_of_le (by simp; omega)]
  simp
/-- the document's digits -/
theorem ref_Put_loop (w : Nat) (hw : w ≤ 1000) : ∀ (k n i : Nat) (l : List UInt8), k + i = w → l.length = i → n < 18446744073709551616 →
    ∃ m : Nat, bursarref02_Put.l4 ((n : Int), ((w : Int), (bs l, (i : Int)))) = some ((m : Int), bs (padD k n ++ l))
  | 0, n, i, l, h, hl, hn => by
    refine ⟨n, ?_⟩
    unfold bursarref02_Put.l4
    rw [rounds_end (r := ((n : Int), bs l))]
    · rfl
    · unfold bursarref02_Put.t4
      have h1 : ¬ (i : Int) < (w : Int) := by omega
      simp only [h1, decide_false, cond_false]
  | k + 1, n, i, l, h, hl, hn => by
    obtain ⟨m, ih⟩ := ref_Put_loop w hw k (n / 10) (i + 1) (dgt (n % 10) :: l) (by omega) (by simp; omega) (by omega)
    refine ⟨m, ?_⟩
    unfold bursarref02_Put.l4 at ih ⊢
    rw [rounds_next (s' := (((n / 10 : Nat) : Int), ((w : Int), (bs (dgt (n % 10) :: l), ((i + 1 : Nat) : Int)))))]
    · rw [ih]; simp [padD]
    · unfold bursarref02_Put.t4
      have h1 : (i : Int) < (w : Int) := by omega
      have e1 : IntKind.wrap .u64 (Int.tdiv (n : Int) 10) = ((n / 10 : Nat) : Int) := by
        rw [show Int.tdiv (n : Int) 10 = ((n / 10 : Nat) : Int) from (Int.ofNat_tdiv n 10).symm, wrap_u64]; omega
      have e2 : IntKind.wrap .u8 (IntKind.wrap .u64 ((48 : Int) + (Int.tmod (n : Int) (10 : Int)))) = ((48 + n % 10 : Nat) : Int) := by
        rw [show Int.tmod (n : Int) 10 = ((n % 10 : Nat) : Int) from (Int.ofNat_tmod n 10).symm, wrap_u64, wrap_u8]; omega
      have e3 : IntKind.wrap .i64 ((i : Int) + 1) = ((i + 1 : Nat) : Int) := wrap_up (by omega)
      have e4 : (ByteArray.mk (List.toArray (List.map (fun y4 => (UInt8.ofNat (Int.toNat y4))) [((48 + n % 10 : Nat) : Int)]))) = bs [dgt (n % 10)] := by
        show bs [UInt8.ofNat (Int.toNat ((48 + n % 10 : Nat) : Int))] = _
        rw [Int.toNat_natCast]
      simp only [e1, e2, e3, e4, h1, decide_true, cond_true, bs_append, bs_size]
      rw [Nat.ble_eq_true_of_le (by simp; omega)]
      rfl
theorem Of_is {n : Nat} (h : n < 18446744073709551616) : bursarref02_Of.f ((n : Int), 10) = some (bs (padD 10 n)) := by
  obtain ⟨m, hm⟩ := ref_Put_loop 10 (by omega) 10 n 0 [] rfl rfl h
  unfold bursarref02_Of.f bursarref02_Put.f
  have hm' : bursarref02_Put.l4 ((n : Int), ((10 : Int), (bs [], (0 : Int)))) = some ((m : Int), bs (padD 10 n ++ [])) := hm
  rw [hm', List.append_nil]
  rfl
/-- a hold's text -/
def txtH (h : Hd) : List UInt8 := h.1.data.toList ++ h.2.1.data.toList ++ h.2.2.1.data.toList ++ padD 10 h.2.2.2.2.2.1.toNat ++ [bif h.2.2.2.2.2.2 then 111 else 99] ++ txt h.2.2.2.1 ++ [32] ++ txt h.2.2.2.2.1
theorem may_parts {h : Hd} (hm : mayB h = true) : h.1.size = 12 ∧ h.2.1.size = 6 ∧ h.2.2.1.size = 16 ∧ 0 ≤ h.2.2.2.2.2.1 ∧ h.2.2.2.2.2.1 ≤ 2147483647 ∧ 0 ≤ h.2.2.2.2.1 ∧ h.2.2.2.2.1 ≤ h.2.2.2.1 := by
  unfold mayB refB cardB acqB untilB at hm
  simp only [Bool.and_eq_true, beq_iff_eq, decide_eq_true_eq] at hm
  obtain ⟨⟨a, _⟩, ⟨b, _⟩, ⟨c, _⟩, ⟨d, e⟩, f, g, _⟩ := hm
  exact ⟨a, c, b, d, e, f, g⟩
theorem Text_hold_is {h : Hd} (hs : h.1.size ≤ 4611686018427387904) (ha : Am h.2.2.2.1) : hold_Text.f h = some (bif mayB h then (bs (txtH h), 0) else (bs [], 1)) := by
  unfold hold_Text.f
  rw [hold_May_is h hs, Option.bind_some]
  cases hm : mayB h with
  | false => rfl
  | true =>
    obtain ⟨p1, p2, p3, p4, p5, p6, p7⟩ := may_parts hm
    obtain ⟨rrn, acq, pan, app, cap, unt, op⟩ := h
    simp only at p1 p2 p3 p4 p5 p6 p7 ha ⊢
    obtain ⟨a1, a2⟩ := ha
    have hc : Am cap := ⟨by omega, by omega⟩
    have hu : IntKind.wrap .u64 unt = ((unt.toNat : Nat) : Int) := by rw [wrap_u64]; omega
    have la := txt_len app
    have lc := txt_len cap
    rw [hu, Put_is (by omega), Text_is ⟨a1, a2⟩, Text_is hc]
    unfold txtH
    have lu := padD_len 10 unt.toNat
    obtain ⟨u, hu'⟩ : ∃ u, padD 10 unt.toNat = u := ⟨_, rfl⟩
    obtain ⟨ta, hta⟩ : ∃ u, txt app = u := ⟨_, rfl⟩
    obtain ⟨tc, htc⟩ : ∃ u, txt cap = u := ⟨_, rfl⟩
    rw [hu'] at lu
    rw [hta] at la
    rw [htc] at lc
    simp only [hu', hta, htc]
    rw [eq_bs rrn, bs_size] at p1
    rw [eq_bs acq, bs_size] at p2
    rw [eq_bs pan, bs_size] at p3
    obtain ⟨r, hr⟩ : ∃ u, rrn.data.toList = u := ⟨_, rfl⟩
    obtain ⟨q, hq⟩ : ∃ u, acq.data.toList = u := ⟨_, rfl⟩
    obtain ⟨n, hn⟩ : ∃ u, pan.data.toList = u := ⟨_, rfl⟩
    rw [eq_bs rrn, eq_bs acq, eq_bs pan, hr, hq, hn]
    rw [hr] at p1
    rw [hq] at p2
    rw [hn] at p3
    have b1 : ∀ k, k ≤ 200 → Nat.ble k 9223372036854775807 = true := fun k h => Nat.ble_eq_true_of_le (by omega)
    simp only [Bool.not_true, cond_false, Option.bind_some, bs_append, bs_size, bs_list]
    rw [b1 _ (by omega), b1 _ (by simp; omega), b1 _ (by simp; omega), b1 _ (by simp; omega), b1 _ (by simp; omega), b1 _ (by simp; omega), b1 _ (by simp; omega)]
    cases op
    · simp only [cond_false, cond_true]
      rw [b1 _ (by simp; omega), b1 _ (by simp; omega), b1 _ (by simp; omega)]
      rfl
    · simp only [cond_false, cond_true]
theorem Text_ref_is {h : Hd} (hm : mayB h = true) (ha : Am h.2.2.2.1) : bursarref14_Text.f h = some (bs (txtH h)) := by
  unfold bursarref14_Text.f
  obtain ⟨p1, p2, p3, p4, p5, p6, p7⟩ := may_parts hm
  obtain ⟨rrn, acq, pan, app, cap, unt, op⟩ := h
  simp only at p1 p2 p3 p4 p5 p6 p7 ha ⊢
  obtain ⟨a1, a2⟩ := ha
  have hc : Am cap := ⟨by omega, by omega⟩
  have hu : IntKind.wrap .u64 unt = ((unt.toNat : Nat) : Int) := by rw [wrap_u64]; omega
  have la := txt_len app
  have lc := txt_len cap
  rw [hu, Of_is (by omega), ref_Text_is ⟨a1, a2⟩, ref_Text_is hc]
  unfold txtH
  have lu := padD_len 10 unt.toNat
  obtain ⟨u, hu'⟩ : ∃ u, padD 10 unt.toNat = u := ⟨_, rfl⟩
  obtain ⟨ta, hta⟩ : ∃ u, txt app = u := ⟨_, rfl⟩
  obtain ⟨tc, htc⟩ : ∃ u, txt cap = u := ⟨_, rfl⟩
  rw [hu'] at lu
  rw [hta] at la
  rw [htc] at lc
  simp only [hu', hta, htc]
  rw [eq_bs rrn, bs_size] at p1
  rw [eq_bs acq, bs_size] at p2
  rw [eq_bs pan, bs_size] at p3
  obtain ⟨r, hr⟩ : ∃ u, rrn.data.toList = u := ⟨_, rfl⟩
  obtain ⟨q, hq⟩ : ∃ u, acq.data.toList = u := ⟨_, rfl⟩
  obtain ⟨n, hn⟩ : ∃ u, pan.data.toList = u := ⟨_, rfl⟩
  rw [eq_bs rrn, eq_bs acq, eq_bs pan, hr, hq, hn]
  rw [hr] at p1
  rw [hq] at p2
  rw [hn] at p3
  have b1 : ∀ k, k ≤ 200 → Nat.ble k 9223372036854775807 = true := fun k h => Nat.ble_eq_true_of_le (by omega)
  simp only [Bool.not_true, cond_false, Option.bind_some, bs_append, bs_size, bs_list]
  rw [b1 _ (by omega), b1 _ (by simp; omega), b1 _ (by simp; omega), b1 _ (by simp; omega), b1 _ (by simp; omega), b1 _ (by simp; omega), b1 _ (by simp; omega)]
  cases op
  · simp only [cond_false, cond_true]
    rw [b1 _ (by simp; omega), b1 _ (by simp; omega), b1 _ (by simp; omega)]
    rfl
  · simp only [cond_false, cond_true]
end Go.Proofs.YtbjajidphaeogaaDoor
end
section
/- The Go function hold.Parse, as a Lean function, and that it is this one. Written by a program of this session. -/
set_option linter.unusedVariables false
set_option maxRecDepth 100000
namespace Go.Proofs.YtbjajidphaeogaaDoor
open Go Go.Fw
abbrev hold_Parse.As : Shs := (.cons (.x .s) .nil)
abbrev hold_Parse.m : Back := [(false, T_api_Hold), (false, (.i .i64))]
noncomputable abbrev hold_Parse.H : HK := hk P G1 E0 [money_Parse.row, hold_Text.row, strconv_Atoi.row] noLoops 4
theorem hold_Parse.hok : HKOK P hold_Parse.H := hk_ok e0_ok (rows_ok (ws := [money_Parse.row, hold_Text.row, strconv_Atoi.row]) ⟨money_Parse.row_ok, ⟨(hold_Text.row_ok.more g01), ⟨strconv_Atoi.row_ok, trivial⟩⟩⟩) (fun g n => noLoops_ok g n) 4
noncomputable def hold_Parse.f (a : ByteArray) : Option ((ByteArray × (ByteArray × (ByteArray × (Int × (Int × (Int × Bool)))))) × Int) := (bif (decide (((a.size : Int) < (45 : Int)))) then (some (((bs []), ((bs []), ((bs []), ((0 : Int), ((0 : Int), ((0 : Int), false)))))), (4 : Int))) else (bif (true && (decide (((12 : Int) ≤ (a.size : Int))))) then (bif (true && (decide (((18 : Int) ≤ (a.size : Int))))) then (bif (true && (decide (((34 : Int) ≤ (a.size : Int))))) then (bif (true && (decide (((44 : Int) < (a.size : Int))))) then (bif (true && (decide (((44 : Int) ≤ (a.size : Int))))) then (((strconv_Atoi.f (ByteArray.extract a 34 44))).bind fun (x1 : (Int × Bool)) => (bif (true && (decide (((45 : Int) ≤ (a.size : Int))))) then (bif ((ByteArray.toList (bs [32])) == (ByteArray.toList (ByteArray.extract a 45 a.size))) then (bif (true && (decide (((1 : Int) ≤ ((ByteArray.extract a 45 a.size).size : Int))))) then (((money_Parse.f (ByteArray.extract (ByteArray.extract a 45 a.size) 0 0))).bind fun (x2 : (Int × Int)) => (((money_Parse.f (ByteArray.extract (ByteArray.extract a 45 a.size) 1 (ByteArray.extract a 45 a.size).size))).bind fun (x3 : (Int × Int)) => (((hold_Text.f ((ByteArray.extract a 0 12), ((ByteArray.extract a 12 18), ((ByteArray.extract a 18 34), (x2.1, (x3.1, (x1.1, ((bt a 44) == (111 : Int)))))))))).bind fun (x4 : (ByteArray × Int)) => (bif (x4.2 != (0 : Int)) then (some (((bs []), ((bs []), ((bs []), ((0 : Int), ((0 : Int), ((0 : Int), false)))))), (4 : Int))) else (bif (!((ByteArray.toList x4.1) == (ByteArray.toList a))) then (some (((bs []), ((bs []), ((bs []), ((0 : Int), ((0 : Int), ((0 : Int), false)))))), (4 : Int))) else (some (((ByteArray.extract a 0 12), ((ByteArray.extract a 12 18), ((ByteArray.extract a 18 34), (x2.1, (x3.1, (x1.1, ((bt a 44) == (111 : Int)))))))), (0 : Int)))))))) else none) else (bif (decide (((Go.Lib.indexByte (Array.toList (ByteArray.data (ByteArray.extract a 45 a.size))) (32 : UInt8)) ≥ (0 : Int)))) then (bif ((decide (((0 : Int) ≤ (Go.Lib.indexByte (Array.toList (ByteArray.data (ByteArray.extract a 45 a.size))) (32 : UInt8))))) && (decide (((Go.Lib.indexByte (Array.toList (ByteArray.data (ByteArray.extract a 45 a.size))) (32 : UInt8)) ≤ ((ByteArray.extract a 45 a.size).size : Int))))) then (bif ((decide (((0 : Int) ≤ (IntKind.wrap .i64 ((Go.Lib.indexByte (Array.toList (ByteArray.data (ByteArray.extract a 45 a.size))) (32 : UInt8)) + (1 : Int)))))) && (decide (((IntKind.wrap .i64 ((Go.Lib.indexByte (Array.toList (ByteArray.data (ByteArray.extract a 45 a.size))) (32 : UInt8)) + (1 : Int))) ≤ ((ByteArray.extract a 45 a.size).size : Int))))) then (((money_Parse.f (ByteArray.extract (ByteArray.extract a 45 a.size) 0 (Int.toNat (Go.Lib.indexByte (Array.toList (ByteArray.data (ByteArray.extract a 45 a.size))) (32 : UInt8)))))).bind fun (x2 : (Int × Int)) => (((money_Parse.f (ByteArray.extract (ByteArray.extract a 45 a.size) (Int.toNat (IntKind.wrap .i64 ((Go.Lib.indexByte (Array.toList (ByteArray.data (ByteArray.extract a 45 a.size))) (32 : UInt8)) + (1 : Int)))) (ByteArray.extract a 45 a.size).size))).bind fun (x3 : (Int × Int)) => (((hold_Text.f ((ByteArray.extract a 0 12), ((ByteArray.extract a 12 18), ((ByteArray.extract a 18 34), (x2.1, (x3.1, (x1.1, ((bt a 44) == (111 : Int)))))))))).bind fun (x4 : (ByteArray × Int)) => (bif (x4.2 != (0 : Int)) then (some (((bs []), ((bs []), ((bs []), ((0 : Int), ((0 : Int), ((0 : Int), false)))))), (4 : Int))) else (bif (!((ByteArray.toList x4.1) == (ByteArray.toList a))) then (some (((bs []), ((bs []), ((bs []), ((0 : Int), ((0 : Int), ((0 : Int), false)))))), (4 : Int))) else (some (((ByteArray.extract a 0 12), ((ByteArray.extract a 12 18), ((ByteArray.extract a 18 34), (x2.1, (x3.1, (x1.1, ((bt a 44) == (111 : Int)))))))), (0 : Int)))))))) else none) else none) else (((money_Parse.f (ByteArray.extract a 45 a.size))).bind fun (x2 : (Int × Int)) => (((hold_Text.f ((ByteArray.extract a 0 12), ((ByteArray.extract a 12 18), ((ByteArray.extract a 18 34), (x2.1, ((0 : Int), (x1.1, ((bt a 44) == (111 : Int)))))))))).bind fun (x3 : (ByteArray × Int)) => (bif (x3.2 != (0 : Int)) then (some (((bs []), ((bs []), ((bs []), ((0 : Int), ((0 : Int), ((0 : Int), false)))))), (4 : Int))) else (bif (!((ByteArray.toList x3.1) == (ByteArray.toList a))) then (some (((bs []), ((bs []), ((bs []), ((0 : Int), ((0 : Int), ((0 : Int), false)))))), (4 : Int))) else (some (((ByteArray.extract a 0 12), ((ByteArray.extract a 12 18), ((ByteArray.extract a 18 34), (x2.1, ((0 : Int), (x1.1, ((bt a 44) == (111 : Int)))))))), (0 : Int))))))))) else none)) else none) else none) else none) else none) else none))
theorem hold_Parse.ok : ∀ a : Vals hold_Parse.As.tys, fnK P hold_Parse.H (lp []) 42 hold_Parse.As hold_Parse.m a some = hold_Parse.f a := fun a => by kernel_rfl
noncomputable abbrev hold_Parse.row : Row := fnRow 42 hold_Parse.As hold_Parse.m hold_Parse.f
theorem hold_Parse.row_ok : RowOK P G1 hold_Parse.row := row_told hold_Parse.hok (lp_of (l := []) trivial) (fun _ => rfl) hold_Parse.ok
end Go.Proofs.YtbjajidphaeogaaDoor
end
section
/- The Go function bursarref02.Get, as a Lean function, and that it is this one. Written by a program of this session. -/
set_option linter.unusedVariables false
set_option maxRecDepth 100000
namespace Go.Proofs.YtbjajidphaeogaaDoor
open Go Go.Fw
abbrev bursarref02_Get.As : Shs := (.cons (.x .s) .nil)
abbrev bursarref02_Get.m : Back := [(false, (.i .u64)), (false, (.i .i64))]
noncomputable abbrev bursarref02_Get.H : HK := hk P G0 E0 [bursarref02_All.row] noLoops 4
theorem bursarref02_Get.hok : HKOK P bursarref02_Get.H := hk_ok e0_ok (rows_ok (ws := [bursarref02_All.row]) ⟨bursarref02_All.row_ok, trivial⟩) (fun g n => noLoops_ok g n) 4
abbrev bursarref02_Get.sh10 : SSh := ⟨[(0, (.x .s)), (4, (.x (.i .u64))), (5, (.x (.i .i64)))], []⟩
abbrev bursarref02_Get.os10 : PEnds := [((.exit 0), ⟨[(4, (.x (.i .u64)))], []⟩)]
noncomputable def bursarref02_Get.t10 (s : (ByteArray × (Int × Int))) : Option ((ByteArray × (Int × Int)) ⊕ (Int)) := (bif (decide ((s.2.2 < (s.1.size : Int)))) then (bif ((decide (((0 : Int) ≤ s.2.2))) && (decide ((s.2.2 < (s.1.size : Int))))) then (some (.inl (s.1, ((IntKind.wrap .u64 ((IntKind.wrap .u64 ((IntKind.wrap .u64 ((10 : Int) * s.2.1)) + (IntKind.wrap .u64 (bt s.1 (Int.toNat s.2.2))))) - (48 : Int))), (IntKind.wrap .i64 (s.2.2 + (1 : Int))))))) else none) else (some (.inr s.2.1)))
theorem bursarref02_Get.t10_ok : ∀ s : Vals bursarref02_Get.sh10.tys, turnK P bursarref02_Get.H (lp []) (bodyAt (codeOf P 75) 10) 0 bursarref02_Get.sh10 bursarref02_Get.os10 s some = bursarref02_Get.t10 s := fun s => by kernel_rfl
noncomputable def bursarref02_Get.l10 : (ByteArray × (Int × Int)) → Option (Int) := rounds bursarref02_Get.t10
noncomputable def bursarref02_Get.f (a : ByteArray) : Option (Int × Int) := (bif (decide (((a.size : Int) < (1 : Int)))) then (some ((0 : Int), (1 : Int))) else (bif (decide (((a.size : Int) > (19 : Int)))) then (some ((0 : Int), (1 : Int))) else (((bursarref02_All.f a)).bind fun (x1 : Bool) => (bif (!x1) then (some ((0 : Int), (4 : Int))) else (((bursarref02_Get.l10 (a, ((0 : Int), (0 : Int))))).bind fun (x2 : Int) => (some (x2, (0 : Int))))))))
theorem bursarref02_Get.ok : ∀ a : Vals bursarref02_Get.As.tys, fnK P bursarref02_Get.H (lp [(10, NodeT.summ ⟨bursarref02_Get.sh10, bursarref02_Get.os10, bursarref02_Get.l10⟩ 0)]) 75 bursarref02_Get.As bursarref02_Get.m a some = bursarref02_Get.f a := fun a => by kernel_rfl
noncomputable abbrev bursarref02_Get.row : Row := fnRow 75 bursarref02_Get.As bursarref02_Get.m bursarref02_Get.f
theorem bursarref02_Get.row_ok : RowOK P G0 bursarref02_Get.row := row_told bursarref02_Get.hok (lp_of (l := [(10, NodeT.summ ⟨bursarref02_Get.sh10, bursarref02_Get.os10, bursarref02_Get.l10⟩ 0)]) ⟨loop_sum bursarref02_Get.hok (by kernel_rfl) (by kernel_rfl) (l := []) trivial bursarref02_Get.sh10 bursarref02_Get.os10 (by kernel_rfl) bursarref02_Get.t10 bursarref02_Get.t10_ok, trivial⟩) (fun _ => rfl) bursarref02_Get.ok
end Go.Proofs.YtbjajidphaeogaaDoor
end
section
/- The Go function bursarref14.Parse, as a Lean function, and that it is this one. Written by a program of this session. -/
set_option linter.unusedVariables false
set_option maxRecDepth 100000
namespace Go.Proofs.YtbjajidphaeogaaDoor
open Go Go.Fw
abbrev bursarref14_Parse.As : Shs := (.cons (.x .s) .nil)
abbrev bursarref14_Parse.m : Back := [(false, T_api_Hold), (false, .b)]
noncomputable abbrev bursarref14_Parse.H : HK := hk P G0 E0 [bursarref01_Parse.row, bursarref14_May.row, bursarref14_Text.row, bursarref02_Get.row] noLoops 4
theorem bursarref14_Parse.hok : HKOK P bursarref14_Parse.H := hk_ok e0_ok (rows_ok (ws := [bursarref01_Parse.row, bursarref14_May.row, bursarref14_Text.row, bursarref02_Get.row]) ⟨bursarref01_Parse.row_ok, ⟨bursarref14_May.row_ok, ⟨bursarref14_Text.row_ok, ⟨bursarref02_Get.row_ok, trivial⟩⟩⟩⟩) (fun g n => noLoops_ok g n) 4
abbrev bursarref14_Parse.sh6 : SSh := ⟨[(0, (.x .s)), (2, (.pt 0 0)), (4, (.x (.i .i64)))], [.box (.cons (.x .s) (.cons (.x .s) (.cons (.x .s) (.cons (.x (.i .i64)) (.cons (.x (.i .i64)) (.cons (.x (.i .i64)) (.cons (.x .b) .nil)))))))]⟩
abbrev bursarref14_Parse.os6 : PEnds := [((.exit 0), ⟨[(0, (.x .s)), (2, (.pt 0 0)), (4, (.x (.i .i64)))], [.box (.cons (.x .s) (.cons (.x .s) (.cons (.x .s) (.cons (.x (.i .i64)) (.cons (.x (.i .i64)) (.cons (.x (.i .i64)) (.cons (.x .b) .nil)))))))]⟩)]
noncomputable def bursarref14_Parse.t6 (s : (ByteArray × (Int × (ByteArray × (ByteArray × (ByteArray × (Int × (Int × (Int × Bool))))))))) : Option ((ByteArray × (Int × (ByteArray × (ByteArray × (ByteArray × (Int × (Int × (Int × Bool)))))))) ⊕ ((ByteArray × (Int × (ByteArray × (ByteArray × (ByteArray × (Int × (Int × (Int × Bool)))))))))) := (bif (decide ((s.2.1 < (s.1.size : Int)))) then (bif ((decide (((0 : Int) ≤ s.2.1))) && (decide ((s.2.1 < (s.1.size : Int))))) then (bif ((bt s.1 (Int.toNat s.2.1)) != (32 : Int)) then (some (.inl (s.1, ((IntKind.wrap .i64 (s.2.1 + (1 : Int))), s.2.2)))) else (some (.inr s))) else none) else (some (.inr s)))
theorem bursarref14_Parse.t6_ok : ∀ s : Vals bursarref14_Parse.sh6.tys, turnK P bursarref14_Parse.H (lp []) (bodyAt (codeOf P 43) 6) 0 bursarref14_Parse.sh6 bursarref14_Parse.os6 s some = bursarref14_Parse.t6 s := fun s => by kernel_rfl
noncomputable def bursarref14_Parse.l6 : (ByteArray × (Int × (ByteArray × (ByteArray × (ByteArray × (Int × (Int × (Int × Bool)))))))) → Option ((ByteArray × (Int × (ByteArray × (ByteArray × (ByteArray × (Int × (Int × (Int × Bool))))))))) := rounds bursarref14_Parse.t6
noncomputable def bursarref14_Parse.f (a : ByteArray) : Option ((ByteArray × (ByteArray × (ByteArray × (Int × (Int × (Int × Bool)))))) × Bool) := (bif (decide (((a.size : Int) < (45 : Int)))) then (some (((bs []), ((bs []), ((bs []), ((0 : Int), ((0 : Int), ((0 : Int), false)))))), false)) else (((bursarref14_Parse.l6 (a, ((45 : Int), ((bs []), ((bs []), ((bs []), ((0 : Int), ((0 : Int), ((0 : Int), false)))))))))).bind fun (x1 : (ByteArray × (Int × (ByteArray × (ByteArray × (ByteArray × (Int × (Int × (Int × Bool))))))))) => (bif (x1.2.1 == (x1.1.size : Int)) then (some (((bs []), ((bs []), ((bs []), ((0 : Int), ((0 : Int), ((0 : Int), false)))))), false)) else (bif (true && (decide (((44 : Int) ≤ (x1.1.size : Int))))) then (((bursarref02_Get.f (ByteArray.extract x1.1 34 44))).bind fun (x2 : (Int × Int)) => (bif ((decide (((0 : Int) ≤ x1.2.1))) && (decide ((x1.2.1 ≤ (x1.1.size : Int))))) then (bif (true && (decide (((45 : Int) ≤ ((Int.toNat x1.2.1) : Int))))) then (((bursarref01_Parse.f (ByteArray.extract x1.1 45 (Int.toNat x1.2.1)))).bind fun (x3 : (Int × Bool)) => (bif ((decide (((0 : Int) ≤ (IntKind.wrap .i64 (x1.2.1 + (1 : Int)))))) && (decide (((IntKind.wrap .i64 (x1.2.1 + (1 : Int))) ≤ (x1.1.size : Int))))) then (((bursarref01_Parse.f (ByteArray.extract x1.1 (Int.toNat (IntKind.wrap .i64 (x1.2.1 + (1 : Int)))) x1.1.size))).bind fun (x4 : (Int × Bool)) => (bif (true && (decide (((12 : Int) ≤ (x1.1.size : Int))))) then (bif (true && (decide (((18 : Int) ≤ (x1.1.size : Int))))) then (bif (true && (decide (((34 : Int) ≤ (x1.1.size : Int))))) then (bif (true && (decide (((44 : Int) < (x1.1.size : Int))))) then (bif (x2.2 != (0 : Int)) then (some (((bs []), ((bs []), ((bs []), ((0 : Int), ((0 : Int), ((0 : Int), false)))))), false)) else (bif (!x3.2) then (some (((bs []), ((bs []), ((bs []), ((0 : Int), ((0 : Int), ((0 : Int), false)))))), false)) else (bif (!x4.2) then (some (((bs []), ((bs []), ((bs []), ((0 : Int), ((0 : Int), ((0 : Int), false)))))), false)) else (((bursarref14_May.f ((ByteArray.extract x1.1 0 12), ((ByteArray.extract x1.1 12 18), ((ByteArray.extract x1.1 18 34), (x3.1, (x4.1, ((IntKind.wrap .i64 x2.1), ((bt x1.1 44) == (111 : Int)))))))))).bind fun (x5 : Bool) => (bif (!x5) then (some (((bs []), ((bs []), ((bs []), ((0 : Int), ((0 : Int), ((0 : Int), false)))))), false)) else (((bursarref14_Text.f ((ByteArray.extract x1.1 0 12), ((ByteArray.extract x1.1 12 18), ((ByteArray.extract x1.1 18 34), (x3.1, (x4.1, ((IntKind.wrap .i64 x2.1), ((bt x1.1 44) == (111 : Int)))))))))).bind fun (x6 : ByteArray) => (bif (!((ByteArray.toList x6) == (ByteArray.toList x1.1))) then (some (((bs []), ((bs []), ((bs []), ((0 : Int), ((0 : Int), ((0 : Int), false)))))), false)) else (some (((ByteArray.extract x1.1 0 12), ((ByteArray.extract x1.1 12 18), ((ByteArray.extract x1.1 18 34), (x3.1, (x4.1, ((IntKind.wrap .i64 x2.1), ((bt x1.1 44) == (111 : Int)))))))), true))))))))) else none) else none) else none) else none)) else none)) else none) else none)) else none))))
theorem bursarref14_Parse.ok : ∀ a : Vals bursarref14_Parse.As.tys, fnK P bursarref14_Parse.H (lp [(6, NodeT.summ ⟨bursarref14_Parse.sh6, bursarref14_Parse.os6, bursarref14_Parse.l6⟩ 0)]) 43 bursarref14_Parse.As bursarref14_Parse.m a some = bursarref14_Parse.f a := fun a => by kernel_rfl
noncomputable abbrev bursarref14_Parse.row : Row := fnRow 43 bursarref14_Parse.As bursarref14_Parse.m bursarref14_Parse.f
theorem bursarref14_Parse.row_ok : RowOK P G0 bursarref14_Parse.row := row_told bursarref14_Parse.hok (lp_of (l := [(6, NodeT.summ ⟨bursarref14_Parse.sh6, bursarref14_Parse.os6, bursarref14_Parse.l6⟩ 0)]) ⟨loop_sum bursarref14_Parse.hok (by kernel_rfl) (by kernel_rfl) (l := []) trivial bursarref14_Parse.sh6 bursarref14_Parse.os6 (by kernel_rfl) bursarref14_Parse.t6 bursarref14_Parse.t6_ok, trivial⟩) (fun _ => rfl) bursarref14_Parse.ok
end Go.Proofs.YtbjajidphaeogaaDoor
end
section
/- A hold of a text: what the code and the document's answer read. By this session. -/
set_option linter.unusedVariables false
set_option linter.unusedSimpArgs false
namespace Go.Proofs.YtbjajidphaeogaaDoor
open Go Go.Fw
def Good (h : Hd) (l : List UInt8) : Prop := mayB h = true ∧ Am h.2.2.2.1 ∧ txtH h = l
abbrev zeroH : Hd := (bs [], (bs [], (bs [], (0, (0, (0, false))))))
abbrev mkH (l : List UInt8) (app cap unt : Int) : Hd := (bs ((l.take 12).drop 0), (bs ((l.take 18).drop 12), (bs ((l.take 34).drop 18), (app, (cap, (unt, (((l.getD 44 0).toNat : Int) == 111)))))))
theorem no_32 (a : Int) : ∀ x, x ∈ txt a → x ≠ 32 := by
  intro x hx h
  subst h
  unfold txt body at hx
  rcases List.mem_append.1 hx with hx | hx
  · split at hx
    · simp at hx
    · simp at hx
  · rcases List.mem_append.1 hx with hx | hx
    · have := decP_dig _ _ _ hx
      exact absurd this (by decide)
    · simp only [List.mem_cons, List.not_mem_nil, or_false] at hx
      have hd : ∀ n, n < 10 → ¬ (32 : UInt8) = dgt n := by
        intro n hn h
        have := dgt_nat hn
        rw [← h] at this
        have h32 : (32 : UInt8).toNat = 32 := rfl
        omega
      rcases hx with h | h | h | h
      · exact hd _ (by omega) h
      · exact absurd h (by decide)
      · exact hd _ (by omega) h
      · exact hd _ (by omega) h
theorem good_parts {h : Hd} {l : List UInt8} (g : Good h l) : ∃ (r a p : List UInt8) (app cap unt : Int) (op : Bool), h = (bs r, (bs a, (bs p, (app, (cap, (unt, op)))))) ∧ r.length = 12 ∧ a.length = 6 ∧ p.length = 16 ∧ 0 ≤ unt ∧ unt ≤ 2147483647 ∧ Am app ∧ Am cap ∧
    l = r ++ (a ++ (p ++ (padD 10 unt.toNat ++ ((bif op then 111 else 99) :: (txt app ++ 32 :: txt cap))))) := by
  obtain ⟨hm, ha, ht⟩ := g
  obtain ⟨p1, p2, p3, p4, p5, p6, p7⟩ := may_parts hm
  obtain ⟨rrn, acq, pan, app, cap, unt, op⟩ := h
  refine ⟨rrn.data.toList, acq.data.toList, pan.data.toList, app, cap, unt, op, ?_, ?_, ?_, ?_, p4, p5, ha, ?_, ?_⟩
  · rw [← eq_bs, ← eq_bs, ← eq_bs]
  · rw [eq_bs rrn, bs_size] at p1; exact p1
  · rw [eq_bs acq, bs_size] at p2; exact p2
  · rw [eq_bs pan, bs_size] at p3; exact p3
  · obtain ⟨a1, a2⟩ := ha; simp only at a1 a2 p6 p7; exact ⟨by omega, by omega⟩
  · rw [← ht]; unfold txtH; simp
theorem good_cut {r a p u : List UInt8} {c : UInt8} {t : List UInt8} (h1 : r.length = 12) (h2 : a.length = 6) (h3 : p.length = 16) (h4 : u.length = 10) :
    let l := r ++ (a ++ (p ++ (u ++ (c :: t))))
    (l.take 12).drop 0 = r ∧ (l.take 18).drop 12 = a ∧ (l.take 34).drop 18 = p ∧ (l.take 44).drop 34 = u ∧ l.getD 44 0 = c ∧ l.drop 45 = t ∧ 45 ≤ l.length := by
  intro l
  have e : l = r ++ (a ++ (p ++ (u ++ (c :: t)))) := rfl
  refine ⟨?_, ?_, ?_, ?_, ?_, ?_, ?_⟩
  · rw [e, List.drop_zero, List.take_left' h1]
  · rw [e, List.drop_take, List.drop_left' h1, List.take_left' (by omega)]
  · rw [e, List.drop_take, ← List.append_assoc, List.drop_left' (by simp; omega), List.take_left' (by omega)]
  · rw [e, List.drop_take, ← List.append_assoc, ← List.append_assoc, List.drop_left' (by simp; omega), List.take_left' (by omega)]
  · rw [e, ← List.append_assoc, ← List.append_assoc, ← List.append_assoc, List.getD_eq_getElem?_getD, List.getElem?_append_right (by simp; omega)]
    have : 44 - (r ++ a ++ p ++ u).length = 0 := by simp; omega
    rw [this]; rfl
  · rw [e, ← List.append_assoc, ← List.append_assoc, ← List.append_assoc, show (45 : Nat) = 44 + 1 from rfl, ← List.drop_drop, List.drop_left' (by simp; omega)]; rfl
  · rw [e]; simp; omega
theorem good_mk {h : Hd} {l : List UInt8} (g : Good h l) : ∃ (app cap unt : Int), h = mkH l app cap unt ∧ 45 ≤ l.length ∧ Am app ∧ Am cap ∧ 0 ≤ unt ∧ unt ≤ 2147483647 ∧ (l.take 44).drop 34 = padD 10 unt.toNat ∧ l.drop 45 = txt app ++ 32 :: txt cap := by
  obtain ⟨r, a, p, app, cap, unt, op, rfl, h1, h2, h3, h4, h5, h6, h7, rfl⟩ := good_parts g
  have hc := good_cut (c := bif op then 111 else 99) (t := txt app ++ 32 :: txt cap) h1 h2 h3 (padD_len 10 unt.toNat)
  simp only at hc
  obtain ⟨c1, c2, c3, c4, c5, c6, c7⟩ := hc
  refine ⟨app, cap, unt, ?_, c7, h6, h7, h4, h5, c4, c6⟩
  unfold mkH
  rw [c1, c2, c3, c5]
  cases op <;> rfl
/-! the code -/
theorem check_code {h : Hd} (l : List UInt8) (hs : h.1.size ≤ 4611686018427387904) (ha : Am h.2.2.2.1) : ∃ q, ((hold_Text.f h).bind fun (x4 : (ByteArray × Int)) => (bif (x4.2 != (0 : Int)) then (some (zeroH, (4 : Int))) else (bif (!(decide (x4.1 = bs l))) then (some (zeroH, (4 : Int))) else (some (h, (0 : Int)))))) = some q ∧
    (q = (zeroH, 4) ∨ Good h l ∧ q = (h, 0)) ∧ (Good h l → q = (h, 0)) := by
  rw [Text_hold_is hs ha, Option.bind_some]
  cases hm : mayB h with
  | false => exact ⟨_, rfl, .inl rfl, fun g => by have := g.1; rw [hm] at this; cases this⟩
  | true =>
    have hz : ((0 : Int) != 0) = false := by decide
    simp only [cond_true, hz, cond_false]
    by_cases ht : txtH h = l
    · subst ht
      simp only [decide_true, Bool.not_true, cond_false]
      exact ⟨_, rfl, .inr ⟨⟨hm, ha, rfl⟩, rfl⟩, fun _ => rfl⟩
    · have hn : decide (bs (txtH h) = bs l) = false := by rw [decide_eq_false_iff_not, bs_inj]; exact ht
      rw [hn]
      exact ⟨_, rfl, .inl rfl, fun g => absurd g.2.2 ht⟩
theorem parse_padD (M : Nat) : ∀ (k n : Nat) (t : List UInt8), n < 10 ^ k → n < 9223372036854775808 → n ≤ M → Lib.parseUintM M 0 (padD k n ++ t) = Lib.parseUintM M n t
  | 0, n, t, h, _, _ => by
    have : n = 0 := by simpa using h
    subst this; rfl
  | k + 1, n, t, h, h2, h3 => by
    unfold padD
    rw [List.append_assoc, parse_padD M k (n / 10) _ (by have : 10 ^ (k + 1) = 10 ^ k * 10 := Nat.pow_succ ..; omega) (by omega) (by omega), List.singleton_append, parse_dig (by omega) (by omega) (by omega)]
    congr 1
    omega
theorem atoi_padD {n : Nat} (h : n ≤ 2147483647) : atoiU (padD 10 n) = ((n : Int), false) := by
  have hd := padD_dig 10 n
  have hp : Lib.parseMag (padD 10 n) = .ok n := by
    rw [← Lib.parseUintB_64]
    unfold Lib.parseUintB
    have hne : ¬ padD 10 n = [] := fun h => by have := padD_len 10 n; rw [h] at this; cases this
    rw [if_neg hne]
    have := parse_padD (2 ^ 64 - 1) 10 n [] (by omega) (by omega) (by omega)
    rw [List.append_nil] at this
    rw [this]; rfl
  have hlen := padD_len 10 n
  obtain ⟨l, hl⟩ : ∃ l, padD 10 n = l := ⟨_, rfl⟩
  rw [hl] at hd hp hlen ⊢
  cases l with
  | nil => cases hlen
  | cons c r =>
    have hc := hd c (List.mem_cons_self ..)
    unfold atoiU Lib.atoiAll
    have n1 : ¬ (c.toNat = 43 ∨ c.toNat = 45) := by omega
    have n2 : ¬ c.toNat = 45 := by omega
    have n0 : ¬ c.toNat = 43 := by omega
    simp only [n0, n2, or_self, if_false, not_false_eq_true, true_and, false_and]
    rw [hp]
    have n3 : ¬ 9223372036854775808 ≤ n := by omega
    simp only [n3, if_false]
theorem Parse_code {l : List UInt8} (hl : l.length ≤ 200) : ∃ q, hold_Parse.f (bs l) = some q ∧ (q = (zeroH, 4) ∨ ∃ h, Good h l ∧ q = (h, 0)) ∧ ∀ h, Good h l → q = (h, 0) := by
  unfold hold_Parse.f
  simp only [bs_size, bs_extract, texts_eq, bs_inj, bs_list, bt_bs]
  by_cases h45 : (l.length : Int) < 45
  · rw [decide_eq_true h45]
    exact ⟨_, rfl, .inl rfl, fun h g => by obtain ⟨_, _, _, _, h2, _⟩ := good_mk g; omega⟩
  · have d1 : (12 : Int) ≤ (l.length : Int) := by omega
    have d2 : (18 : Int) ≤ (l.length : Int) := by omega
    have d3 : (34 : Int) ≤ (l.length : Int) := by omega
    have d4 : (44 : Int) < (l.length : Int) := by omega
    have d5 : (44 : Int) ≤ (l.length : Int) := by omega
    have d6 : (45 : Int) ≤ (l.length : Int) := by omega
    have ha : strconv_Atoi.f (bs ((l.take 44).drop 34)) = some (atoiU ((l.take 44).drop 34)) := by
      unfold strconv_Atoi.f
      rw [bs_size, bs_list, decide_eq_true (by simp; omega)]; rfl
    rw [ha]
    simp only [h45, d1, d2, d3, d4, d5, d6, decide_true, decide_false, Bool.and_self, cond_true, cond_false, Option.bind_some]
    have hsz : ∀ app cap unt, (mkH l app cap unt).1.size ≤ 4611686018427387904 := fun app cap unt => by
      show (bs _).size ≤ _
      rw [bs_size]; simp; omega
    have em : (l.take l.length).drop 45 = l.drop 45 := by rw [List.take_length]
    rw [em]
    have hrl : (l.drop 45).length ≤ 155 := by simp; omega
    have two : ∀ (x y : List UInt8), x.length ≤ 1000 → y.length ≤ 1000 → (∀ app cap, Am app → Am cap → l.drop 45 = txt app ++ 32 :: txt cap → x = txt app ∧ y = txt cap) →
        ∃ q, ((money_Parse.f (bs x)).bind fun (x2 : (Int × Int)) => (((money_Parse.f (bs y))).bind fun (x3 : (Int × Int)) => (((hold_Text.f (mkH l x2.1 x3.1 (atoiU ((l.take 44).drop 34)).1))).bind fun (x4 : (ByteArray × Int)) => (bif (x4.2 != (0 : Int)) then (some (zeroH, (4 : Int))) else (bif (!(decide (x4.1 = bs l))) then (some (zeroH, (4 : Int))) else (some (mkH l x2.1 x3.1 (atoiU ((l.take 44).drop 34)).1, (0 : Int)))))))) = some q ∧
          (q = (zeroH, 4) ∨ ∃ h, Good h l ∧ q = (h, 0)) ∧ ∀ h, Good h l → q = (h, 0) := by
      intro x y hx hy hxy
      obtain ⟨qa, a1, a2, a3⟩ := Parse_law hx
      obtain ⟨qc, c1, c2, c3⟩ := Parse_law hy
      rw [a1, Option.bind_some, c1, Option.bind_some]
      have haa : Am qa.1 := by
        rcases a2 with rfl | ⟨v, hv, _, rfl⟩
        · exact ⟨by decide, by decide⟩
        · exact hv
      obtain ⟨q, e1, e2, e3⟩ := check_code (h := mkH l qa.1 qc.1 (atoiU ((l.take 44).drop 34)).1) l (hsz _ _ _) haa
      refine ⟨q, e1, ?_, ?_⟩
      · rcases e2 with e2 | ⟨g, e2⟩
        · exact .inl e2
        · exact .inr ⟨_, g, e2⟩
      · intro h g
        obtain ⟨app, cap, unt, hh, _, ga, gc, u1, u2, hu, hd⟩ := good_mk g
        obtain ⟨rfl, rfl⟩ := hxy app cap ga gc hd
        have r1 := a3 app ga rfl
        have r2 := c3 cap gc rfl
        have r3 : (atoiU ((l.take 44).drop 34)).1 = unt := by rw [hu, atoi_padD (by omega)]; show ((unt.toNat : Nat) : Int) = unt; omega
        have hh' : h = mkH l qa.1 qc.1 (atoiU ((l.take 44).drop 34)).1 := by rw [r1, r2, r3]; exact hh
        rw [hh']
        exact e3 (hh' ▸ g)
    have hi := indexByte_lt 32 (l.drop 45)
    have at_32 : ∀ app cap, l.drop 45 = txt app ++ 32 :: txt cap → Lib.indexByte (l.drop 45) 32 = ((txt app).length : Int) := fun app cap e => by rw [e]; exact indexByte_skip 32 _ _ (no_32 app)
    obtain ⟨r, hr⟩ : ∃ r, l.drop 45 = r := ⟨_, rfl⟩
    rw [hr] at hrl hi at_32 two ⊢
    by_cases h32 : [32] = r
    · subst h32
      refine two [] [] (by simp) (by simp) fun app cap _ _ e => ?_
      have := at_32 app cap e
      have h0 : (txt app).length = 0 := by
        have : Lib.indexByte [32] 32 = 0 := by decide
        omega
      rw [List.length_eq_zero_iff.1 h0] at e
      simp at e
      exact ⟨(List.length_eq_zero_iff.1 h0).symm, e.symm⟩
    · rw [decide_eq_false h32, cond_false]
      by_cases h0 : 0 ≤ Lib.indexByte r 32
      · obtain ⟨x, hx⟩ : ∃ x, Lib.indexByte r 32 = x := ⟨_, rfl⟩
        rw [hx] at hi h0 at_32 ⊢
        have hu : IntKind.wrap .i64 (x + 1) = x + 1 := wrap_i64 (by omega) (by omega)
        rw [hu]
        have q2 : x ≤ (r.length : Int) := by omega
        have q3 : 0 ≤ x + 1 := by omega
        have q4 : x + 1 ≤ (r.length : Int) := by omega
        simp only [ge_iff_le, h0, q2, q3, q4, decide_true, Bool.and_self, cond_true]
        refine two _ _ (by simp; omega) (by simp; omega) fun app cap _ _ e => ?_
        have hxa := at_32 app cap e
        have ht : x.toNat = (txt app).length := by omega
        have ht' : (x + 1).toNat = (txt app).length + 1 := by omega
        rw [ht, ht', e]
        refine ⟨by rw [List.drop_zero, List.take_left' rfl], ?_⟩
        rw [List.take_length, ← List.drop_drop, List.drop_left' rfl]; rfl
      · simp only [ge_iff_le, h0, decide_false, cond_false]
        obtain ⟨qa, a1, a2, a3⟩ := Parse_law (l := r) (by omega)
        rw [a1, Option.bind_some]
        have haa : Am qa.1 := by
          rcases a2 with rfl | ⟨v, hv, _, rfl⟩
          · exact ⟨by decide, by decide⟩
          · exact hv
        obtain ⟨q, e1, e2, e3⟩ := check_code (h := mkH l qa.1 0 (atoiU ((l.take 44).drop 34)).1) l (hsz _ _ _) haa
        refine ⟨q, e1, ?_, ?_⟩
        · rcases e2 with e2 | ⟨g, e2⟩
          · exact .inl e2
          · exact .inr ⟨_, g, e2⟩
        · intro h g
          obtain ⟨app, cap, unt, hh, _, ga, gc, u1, u2, hu, hd⟩ := good_mk g
          have := at_32 app cap (hr ▸ hd)
          omega
end Go.Proofs.YtbjajidphaeogaaDoor
end
section
/- A hold of a text: what the document's answer reads. By this session. -/
set_option linter.unusedVariables false
set_option linter.unusedSimpArgs false
namespace Go.Proofs.YtbjajidphaeogaaDoor
open Go Go.Fw
def geta (acc : Int) (c : UInt8) : Int := IntKind.wrap .u64 ((IntKind.wrap .u64 ((IntKind.wrap .u64 (10 * acc)) + (IntKind.wrap .u64 (c.toNat : Int)))) - 48)
theorem get_loop (all : List UInt8) (hall : all.length ≤ 1000) : ∀ (l : List UInt8) (i : Nat) (acc : Int), all.drop i = l → i ≤ all.length →
    bursarref02_Get.l10 (bs all, (acc, (i : Int))) = some (l.foldl geta acc)
  | [], i, acc, h, hi => by
    have hl := congrArg List.length h
    simp only [List.length_drop, List.length_nil] at hl
    unfold bursarref02_Get.l10
    rw [rounds_end (r := acc)]
    · rfl
    · unfold bursarref02_Get.t10
      have h1 : ¬ (i : Int) < ((bs all).size : Int) := by rw [bs_size]; omega
      simp only [h1, decide_false, cond_false]
  | c :: r, i, acc, h, hi => by
    obtain ⟨g1, g2, g3⟩ := drop_cons 0 h
    have ih := get_loop all hall r (i + 1) (geta acc c) g2 (by omega)
    unfold bursarref02_Get.l10 at ih ⊢
    rw [rounds_next (s' := (bs all, (geta acc c, ((i + 1 : Nat) : Int))))]
    · rw [ih]; rfl
    · unfold bursarref02_Get.t10
      have h1 : (i : Int) < ((bs all).size : Int) := by rw [bs_size]; omega
      have h2 : (0 : Int) ≤ (i : Int) := by omega
      have e3 : IntKind.wrap .i64 ((i : Int) + 1) = ((i + 1 : Nat) : Int) := wrap_up (by omega)
      have hb : bt (bs all) (Int.toNat (i : Int)) = (c.toNat : Int) := by rw [bt_bs, Int.toNat_natCast, g1]
      simp only [h1, h2, e3, hb, decide_true, Bool.and_self, cond_true]
      rfl
theorem geta_dgt {n d : Nat} (hd : d < 10) (hn : n * 10 + d < 18446744073709551500) : geta (n : Int) (dgt d) = ((n * 10 + d : Nat) : Int) := by
  unfold geta
  rw [dgt_nat hd]
  simp only [wrap_u64]
  omega
theorem geta_padD : ∀ (k n : Nat), n < 10 ^ k → n < 9223372036854775808 → (padD k n).foldl geta 0 = (n : Int)
  | 0, n, h, _ => by
    have : n = 0 := by simpa using h
    subst this; rfl
  | k + 1, n, h, hn => by
    rw [padD, List.foldl_append, geta_padD k (n / 10) (by have : 10 ^ (k + 1) = 10 ^ k * 10 := Nat.pow_succ ..; omega) (by omega)]
    show geta _ _ = _
    rw [geta_dgt (by omega) (by omega)]
    congr 1
    omega
theorem digits_padD (k n : Nat) : digitsB (bs (padD k n)) = true := by
  unfold digitsB
  rw [List.all_eq_true]
  intro i hi
  rw [List.mem_range, bs_size] at hi
  have := padD_dig k n ((padD k n)[i]) (List.getElem_mem hi)
  unfold digC
  rw [bt_bs, getD_at hi]
  simp only [Bool.and_eq_true, decide_eq_true_eq]
  omega
theorem Get_is {u : List UInt8} (hu : u.length = 10) : ∃ q, bursarref02_Get.f (bs u) = some q ∧ ∀ n : Nat, n ≤ 2147483647 → u = padD 10 n → q = ((n : Int), 0) := by
  unfold bursarref02_Get.f
  have h1 : ¬ ((bs u).size : Int) < 1 := by rw [bs_size]; omega
  have h2 : ¬ ((bs u).size : Int) > 19 := by rw [bs_size]; omega
  simp only [h1, h2, decide_false, cond_false]
  rw [ref_All_is _ (by rw [bs_size]; omega), Option.bind_some]
  cases hd : digitsB (bs u) with
  | false =>
    refine ⟨_, rfl, fun n hn e => ?_⟩
    rw [e, digits_padD] at hd
    cases hd
  | true =>
    have hg := get_loop u (by omega) u 0 0 rfl (by omega)
    have hg' : bursarref02_Get.l10 (bs u, ((0 : Int), (0 : Int))) = some (u.foldl geta 0) := hg
    simp only [Bool.not_true, cond_false]
    rw [hg', Option.bind_some]
    refine ⟨_, rfl, fun n hn e => ?_⟩
    rw [e, geta_padD 10 n (by omega) (by omega)]
/-- where the first one of 32 is, or the end -/
def f32 : List UInt8 → Nat
  | [] => 0
  | c :: r => if c.toNat = 32 then 0 else f32 r + 1
theorem f32_le : ∀ l, f32 l ≤ l.length
  | [] => Nat.le_refl _
  | c :: r => by
    unfold f32
    have := f32_le r
    split <;> simp <;> omega
theorem f32_at : ∀ (l t : List UInt8), (∀ x, x ∈ l → x ≠ 32) → f32 (l ++ 32 :: t) = l.length
  | [], t, _ => rfl
  | c :: r, t, h => by
    have hc : ¬ c.toNat = 32 := fun e => h c (List.mem_cons_self ..) (UInt8.toNat_inj.1 e)
    rw [List.cons_append, f32, if_neg hc, f32_at r t fun x hx => h x (List.mem_cons_of_mem _ hx)]
    rfl
abbrev R6 := (ByteArray × (ByteArray × (ByteArray × (Int × (Int × (Int × Bool))))))
theorem find_loop (all : List UInt8) (z : R6) (hall : all.length ≤ 1000) : ∀ (l : List UInt8) (i : Nat), all.drop i = l → i ≤ all.length →
    bursarref14_Parse.l6 (bs all, ((i : Int), z)) = some (bs all, (((i + f32 l : Nat) : Int), z))
  | [], i, h, hi => by
    have hl := congrArg List.length h
    simp only [List.length_drop, List.length_nil] at hl
    unfold bursarref14_Parse.l6
    rw [rounds_end (r := (bs all, ((i : Int), z)))]
    · rfl
    · unfold bursarref14_Parse.t6
      have h1 : ¬ (i : Int) < ((bs all).size : Int) := by rw [bs_size]; omega
      simp only [h1, decide_false, cond_false]
  | c :: r, i, h, hi => by
    obtain ⟨g1, g2, g3⟩ := drop_cons 0 h
    have ih := find_loop all z hall r (i + 1) g2 (by omega)
    have h1 : (i : Int) < ((bs all).size : Int) := by rw [bs_size]; omega
    have h2 : (0 : Int) ≤ (i : Int) := by omega
    have e3 : IntKind.wrap .i64 ((i : Int) + 1) = ((i + 1 : Nat) : Int) := wrap_up (by omega)
    have hb : bt (bs all) (Int.toNat (i : Int)) = (c.toNat : Int) := by rw [bt_bs, Int.toNat_natCast, g1]
    unfold bursarref14_Parse.l6 at ih ⊢
    unfold f32
    by_cases hc : c.toNat = 32
    · rw [if_pos hc, rounds_end (r := (bs all, ((i : Int), z)))]
      · rfl
      · unfold bursarref14_Parse.t6
        have h3 : ((c.toNat : Int) != 32) = false := by rw [hc]; rfl
        simp only [h1, h2, hb, h3, decide_true, Bool.and_self, cond_true, cond_false]
    · rw [if_neg hc, rounds_next (s' := (bs all, (((i + 1 : Nat) : Int), z)))]
      · rw [ih, show i + 1 + f32 r = i + (f32 r + 1) by omega]
      · unfold bursarref14_Parse.t6
        have h3 : ((c.toNat : Int) != 32) = true := by
          rw [bne_iff_ne]; omega
        simp only [h1, h2, hb, h3, e3, decide_true, Bool.and_self, cond_true]
theorem Parse_ref {l : List UInt8} (hl : l.length ≤ 200) : ∃ q, bursarref14_Parse.f (bs l) = some q ∧ (q = (zeroH, false) ∨ ∃ h, Good h l ∧ q = (h, true)) ∧ ∀ h, Good h l → q = (h, true) := by
  unfold bursarref14_Parse.f
  by_cases h45 : (l.length : Int) < 45
  · rw [bs_size, decide_eq_true h45]
    exact ⟨_, rfl, .inl rfl, fun h g => by obtain ⟨_, _, _, _, h2, _⟩ := good_mk g; omega⟩
  · rw [bs_size, decide_eq_false h45, cond_false]
    have hf := find_loop l (bs [], (bs [], (bs [], (0, (0, (0, false)))))) (by omega) (l.drop 45) 45 rfl (by omega)
    have hf' : bursarref14_Parse.l6 (bs l, ((45 : Int), (bs [], (bs [], (bs [], ((0 : Int), ((0 : Int), ((0 : Int), false)))))))) = _ := hf
    rw [hf', Option.bind_some]
    have hle := f32_le (l.drop 45)
    have hdl : (l.drop 45).length = l.length - 45 := List.length_drop ..
    have at_32 : ∀ app cap, l.drop 45 = txt app ++ 32 :: txt cap → f32 (l.drop 45) = (txt app).length := fun app cap e => by rw [e]; exact f32_at _ _ (no_32 app)
    obtain ⟨k, hk⟩ : ∃ k, f32 (l.drop 45) = k := ⟨_, rfl⟩
    rw [hk] at hle at_32 ⊢
    simp only [bs_size, bs_extract, texts_eq, bs_inj, bt_bs]
    by_cases hend : 45 + k = l.length
    · have he : (((45 + k : Nat) : Int) == (l.length : Int)) = true := by rw [beq_iff_eq]; omega
      rw [he]
      refine ⟨_, rfl, .inl rfl, fun h g => ?_⟩
      obtain ⟨app, cap, unt, hh, _, ga, gc, u1, u2, hu, hd⟩ := good_mk g
      have h1 := at_32 app cap hd
      have h2 := congrArg List.length hd
      rw [List.length_append, List.length_cons] at h2
      omega
    · have he : (((45 + k : Nat) : Int) == (l.length : Int)) = false := by rw [beq_eq_false_iff_ne]; omega
      obtain ⟨qn, n1, n2⟩ := Get_is (u := (l.take 44).drop 34) (by simp; omega)
      rw [he, n1, Int.toNat_natCast]
      have e3 : IntKind.wrap .i64 (((45 + k : Nat) : Int) + 1) = ((45 + k + 1 : Nat) : Int) := wrap_up (by omega)
      rw [e3, Int.toNat_natCast, ref_Parse_is (l := (l.take (45 + k)).drop 45) (by simp; omega), ref_Parse_is (l := (l.take l.length).drop (45 + k + 1)) (by simp; omega)]
      have d1 : (12 : Int) ≤ (l.length : Int) := by omega
      have d2 : (18 : Int) ≤ (l.length : Int) := by omega
      have d3 : (34 : Int) ≤ (l.length : Int) := by omega
      have d4 : (44 : Int) < (l.length : Int) := by omega
      have d5 : (44 : Int) ≤ (l.length : Int) := by omega
      have d6 : (45 : Int) ≤ ((45 + k : Nat) : Int) := by omega
      have d7 : (0 : Int) ≤ ((45 + k : Nat) : Int) := by omega
      have d8 : ((45 + k : Nat) : Int) ≤ (l.length : Int) := by omega
      have d9 : (0 : Int) ≤ ((45 + k + 1 : Nat) : Int) := by omega
      have d10 : ((45 + k + 1 : Nat) : Int) ≤ (l.length : Int) := by omega
      simp only [d1, d2, d3, d4, d5, d6, d7, d8, d9, d10, decide_true, Bool.and_self, cond_true, cond_false, Option.bind_some]
      have only : ∀ h, Good h l → qn.2 = 0 ∧ (refParse ((l.take (45 + k)).drop 45)).2 = true ∧ (refParse ((l.take l.length).drop (45 + k + 1))).2 = true ∧
          h = mkH l (refParse ((l.take (45 + k)).drop 45)).1 (refParse ((l.take l.length).drop (45 + k + 1))).1 (IntKind.wrap .i64 qn.1) := by
        intro h g
        obtain ⟨app, cap, unt, hh, _, ga, gc, u1, u2, hu, hd⟩ := good_mk g
        have h1 := at_32 app cap hd
        have x1 : (l.take (45 + k)).drop 45 = txt app := by rw [List.drop_take, hd, h1, show 45 + (txt app).length - 45 = (txt app).length by omega, List.take_left' rfl]
        have x2 : (l.take l.length).drop (45 + k + 1) = txt cap := by
          rw [List.take_length, show 45 + k + 1 = 45 + (k + 1) by omega, ← List.drop_drop, hd, h1, ← List.drop_drop, List.drop_left' rfl]; rfl
        have x3 := n2 unt.toNat (by omega) hu
        have x4 : IntKind.wrap .i64 ((unt.toNat : Nat) : Int) = unt := by rw [wrap_i64 (by omega) (by omega)]; omega
        rw [x1, x2, x3, refParse_txt ga, refParse_txt gc, x4]
        exact ⟨rfl, rfl, rfl, hh⟩
      obtain ⟨pa, hpa⟩ : ∃ q, refParse ((l.take (45 + k)).drop 45) = q := ⟨_, rfl⟩
      obtain ⟨pc, hpc⟩ : ∃ q, refParse ((l.take l.length).drop (45 + k + 1)) = q := ⟨_, rfl⟩
      have ham : pa.2 = true → Am pa.1 := by
        intro h
        obtain ⟨v, hv, _, e⟩ := refParse_only (l := (l.take (45 + k)).drop 45) (by rw [hpa]; exact h)
        rw [hpa] at e
        rw [e]; exact hv
      rw [hpa, hpc] at only ⊢
      by_cases c1 : qn.2 = 0
      · have c1' : (qn.2 != 0) = false := by rw [c1]; rfl
        simp only [c1', cond_false]
        cases c2 : pa.2 with
        | false => exact ⟨_, rfl, .inl rfl, fun h g => by have := (only h g).2.1; rw [c2] at this; cases this⟩
        | true =>
          cases c3 : pc.2 with
          | false => exact ⟨_, rfl, .inl rfl, fun h g => by have := (only h g).2.2.1; rw [c3] at this; cases this⟩
          | true =>
            simp only [Bool.not_true, cond_false]
            rw [ref_May_is, Option.bind_some]
            cases hm : mayB (mkH l pa.1 pc.1 (IntKind.wrap .i64 qn.1)) with
            | false => exact ⟨_, rfl, .inl rfl, fun h g => by have := g.1; rw [(only h g).2.2.2, hm] at this; cases this⟩
            | true =>
              simp only [Bool.not_true, cond_false]
              rw [Text_ref_is hm (ham c2), Option.bind_some]
              by_cases ht : txtH (mkH l pa.1 pc.1 (IntKind.wrap .i64 qn.1)) = l
              · rw [ht]
                simp only [decide_true, Bool.not_true, cond_false]
                exact ⟨_, rfl, .inr ⟨_, ⟨hm, ham c2, ht⟩, rfl⟩, fun h g => by rw [(only h g).2.2.2]⟩
              · have hn : decide (bs (txtH (mkH l pa.1 pc.1 (IntKind.wrap .i64 qn.1))) = bs l) = false := by rw [decide_eq_false_iff_not, bs_inj]; exact ht
                rw [hn]
                exact ⟨_, rfl, .inl rfl, fun h g => by have := g.2.2; rw [(only h g).2.2.2] at this; exact absurd this ht⟩
      · have c1' : (qn.2 != 0) = true := by rw [bne_iff_ne]; exact c1
        simp only [c1', cond_true]
        exact ⟨_, rfl, .inl rfl, fun h g => absurd (only h g).1 c1⟩
end Go.Proofs.YtbjajidphaeogaaDoor
end
section
/- The Go function bursarlaw14.text, as a Lean function, and that it is this one. Written by a program of this session. -/
set_option linter.unusedVariables false
set_option maxRecDepth 100000
namespace Go.Proofs.YtbjajidphaeogaaDoor
open Go Go.Fw
abbrev bursarlaw14_text.As : Shs := (.cons (.x .s) .nil)
abbrev bursarlaw14_text.m : Back := [(false, .s)]
noncomputable abbrev bursarlaw14_text.H : HK := hk P G0 E0 [] noLoops 4
theorem bursarlaw14_text.hok : HKOK P bursarlaw14_text.H := hk_ok e0_ok (rows_ok (ws := []) trivial) (fun g n => noLoops_ok g n) 4
noncomputable def bursarlaw14_text.f (a : ByteArray) : Option ByteArray := (bif (decide (((a.size : Int) > (30 : Int)))) then (bif (true && (decide (((30 : Int) ≤ (a.size : Int))))) then (some (ByteArray.extract a 0 30)) else none) else (some a))
theorem bursarlaw14_text.ok : ∀ a : Vals bursarlaw14_text.As.tys, fnK P bursarlaw14_text.H (lp []) 73 bursarlaw14_text.As bursarlaw14_text.m a some = bursarlaw14_text.f a := fun a => by kernel_rfl
noncomputable abbrev bursarlaw14_text.row : Row := fnRow 73 bursarlaw14_text.As bursarlaw14_text.m bursarlaw14_text.f
theorem bursarlaw14_text.row_ok : RowOK P G0 bursarlaw14_text.row := row_told bursarlaw14_text.hok (lp_of (l := []) trivial) (fun _ => rfl) bursarlaw14_text.ok
end Go.Proofs.YtbjajidphaeogaaDoor
end
section
/- The Go function bursarlaw14.Few, as a Lean function, and that it is this one. Written by a program of this session. -/
set_option linter.unusedVariables false
set_option maxRecDepth 100000
namespace Go.Proofs.YtbjajidphaeogaaDoor
open Go Go.Fw
abbrev bursarlaw14_Few.As : Shs := (.cons (.x T_api_Hold) .nil)
abbrev bursarlaw14_Few.m : Back := [(false, T_api_Hold)]
noncomputable abbrev bursarlaw14_Few.H : HK := hk P G0 E0 [bursarlaw14_text.row] noLoops 4
theorem bursarlaw14_Few.hok : HKOK P bursarlaw14_Few.H := hk_ok e0_ok (rows_ok (ws := [bursarlaw14_text.row]) ⟨bursarlaw14_text.row_ok, trivial⟩) (fun g n => noLoops_ok g n) 4
noncomputable def bursarlaw14_Few.f (a : (ByteArray × (ByteArray × (ByteArray × (Int × (Int × (Int × Bool))))))) : Option (ByteArray × (ByteArray × (ByteArray × (Int × (Int × (Int × Bool)))))) := (((bursarlaw14_text.f a.1)).bind fun (x1 : ByteArray) => (((bursarlaw14_text.f a.2.1)).bind fun (x2 : ByteArray) => (((bursarlaw14_text.f a.2.2.1)).bind fun (x3 : ByteArray) => (some (x1, (x2, (x3, a.2.2.2)))))))
theorem bursarlaw14_Few.ok : ∀ a : Vals bursarlaw14_Few.As.tys, fnK P bursarlaw14_Few.H (lp []) 41 bursarlaw14_Few.As bursarlaw14_Few.m a some = bursarlaw14_Few.f a := fun a => by kernel_rfl
noncomputable abbrev bursarlaw14_Few.row : Row := fnRow 41 bursarlaw14_Few.As bursarlaw14_Few.m bursarlaw14_Few.f
theorem bursarlaw14_Few.row_ok : RowOK P G0 bursarlaw14_Few.row := row_told bursarlaw14_Few.hok (lp_of (l := []) trivial) (fun _ => rfl) bursarlaw14_Few.ok
end Go.Proofs.YtbjajidphaeogaaDoor
end
section
/- The Go function bursarlaw14.awake, as a Lean function, and that it is this one. Written by a program of this session. -/
set_option linter.unusedVariables false
set_option maxRecDepth 100000
namespace Go.Proofs.YtbjajidphaeogaaDoor
open Go Go.Fw
abbrev bursarlaw14_awake.row : Row := closedRow 48 (.b true)
theorem bursarlaw14_awake.row_ok : RowOK P G0 bursarlaw14_awake.row := closed_ok e0_ok (T := []) trivial 60 (by kernel_rfl)
end Go.Proofs.YtbjajidphaeogaaDoor
end
section
/- The Go function bursarlaw14.HoldTexts, as a Lean function, and that it is this one. Written by a program of this session. -/
set_option linter.unusedVariables false
set_option maxRecDepth 100000
namespace Go.Proofs.YtbjajidphaeogaaDoor
open Go Go.Fw
abbrev bursarlaw14_HoldTexts.As : Shs := (.cons (.x T_api_Hold) (.cons (.x .s) .nil))
abbrev bursarlaw14_HoldTexts.m : Back := [(false, .b)]
noncomputable abbrev bursarlaw14_HoldTexts.H : HK := hk P G1 E0 [bursarlaw14_Few.row, hold_Parse.row, bursarref14_Parse.row, hold_Ref.row, bursarref14_Ref.row, hold_Text.row, bursarref14_May.row, bursarlaw14_awake.row, bursarref14_Text.row] noLoops 4
theorem bursarlaw14_HoldTexts.hok : HKOK P bursarlaw14_HoldTexts.H := hk_ok e0_ok (rows_ok (ws := [bursarlaw14_Few.row, hold_Parse.row, bursarref14_Parse.row, hold_Ref.row, bursarref14_Ref.row, hold_Text.row, bursarref14_May.row, bursarlaw14_awake.row, bursarref14_Text.row]) ⟨(bursarlaw14_Few.row_ok.more g01), ⟨hold_Parse.row_ok, ⟨(bursarref14_Parse.row_ok.more g01), ⟨(hold_Ref.row_ok.more g01), ⟨(bursarref14_Ref.row_ok.more g01), ⟨(hold_Text.row_ok.more g01), ⟨(bursarref14_May.row_ok.more g01), ⟨(bursarlaw14_awake.row_ok.more g01), ⟨(bursarref14_Text.row_ok.more g01), trivial⟩⟩⟩⟩⟩⟩⟩⟩⟩) (fun g n => noLoops_ok g n) 4
noncomputable def bursarlaw14_HoldTexts.f (a : ((ByteArray × (ByteArray × (ByteArray × (Int × (Int × (Int × Bool)))))) × ByteArray)) : Option Bool := (((bursarlaw14_Few.f a.1)).bind fun (x2 : (ByteArray × (ByteArray × (ByteArray × (Int × (Int × (Int × Bool))))))) => (bif (decide (((a.2.size : Int) > (120 : Int)))) then (bif (true && (decide (((120 : Int) ≤ (a.2.size : Int))))) then (((hold_Parse.f (ByteArray.extract a.2 0 120))).bind fun (x3 : ((ByteArray × (ByteArray × (ByteArray × (Int × (Int × (Int × Bool)))))) × Int)) => (((bursarref14_Parse.f (ByteArray.extract a.2 0 120))).bind fun (x4 : ((ByteArray × (ByteArray × (ByteArray × (Int × (Int × (Int × Bool)))))) × Bool)) => (bif (!(((ByteArray.toList x3.1.1) == (ByteArray.toList x4.1.1)) && (((ByteArray.toList x3.1.2.1) == (ByteArray.toList x4.1.2.1)) && (((ByteArray.toList x3.1.2.2.1) == (ByteArray.toList x4.1.2.2.1)) && ((x3.1.2.2.2.1 == x4.1.2.2.2.1) && ((x3.1.2.2.2.2.1 == x4.1.2.2.2.2.1) && ((x3.1.2.2.2.2.2.1 == x4.1.2.2.2.2.2.1) && ((x3.1.2.2.2.2.2.2 == x4.1.2.2.2.2.2.2) && true)))))))) then (some false) else (bif (!((x3.2 == (0 : Int)) == x4.2)) then (some false) else (bif (!x4.2) then (bif (x3.2 != (4 : Int)) then (some false) else (((hold_Ref.f (ByteArray.extract a.2 0 120))).bind fun (x5 : Bool) => (((bursarref14_Ref.f (ByteArray.extract a.2 0 120))).bind fun (x6 : Bool) => (bif (!(x5 == x6)) then (some false) else (((hold_Text.f x2)).bind fun (x7 : (ByteArray × Int)) => (((bursarref14_May.f x2)).bind fun (x8 : Bool) => (bif (!x8) then (bif ((ByteArray.toList x7.1) == (ByteArray.toList (bs []))) then (bif (x7.2 == (1 : Int)) then (some true) else (some false)) else (some false)) else (((hold_Parse.f x7.1)).bind fun (x9 : ((ByteArray × (ByteArray × (ByteArray × (Int × (Int × (Int × Bool)))))) × Int)) => (((bursarref14_Text.f x2)).bind fun (x10 : ByteArray) => (bif ((ByteArray.toList x7.1) == (ByteArray.toList x10)) then (bif (x7.2 == (0 : Int)) then (bif (((ByteArray.toList x9.1.1) == (ByteArray.toList x2.1)) && (((ByteArray.toList x9.1.2.1) == (ByteArray.toList x2.2.1)) && (((ByteArray.toList x9.1.2.2.1) == (ByteArray.toList x2.2.2.1)) && ((x9.1.2.2.2.1 == x2.2.2.2.1) && ((x9.1.2.2.2.2.1 == x2.2.2.2.2.1) && ((x9.1.2.2.2.2.2.1 == x2.2.2.2.2.2.1) && ((x9.1.2.2.2.2.2.2 == x2.2.2.2.2.2.2) && true))))))) then (bif (x9.2 == (0 : Int)) then (some true) else (some false)) else (some false)) else (some false)) else (some false))))))))))) else (((hold_Ref.f (ByteArray.extract a.2 0 120))).bind fun (x5 : Bool) => (((bursarref14_Ref.f (ByteArray.extract a.2 0 120))).bind fun (x6 : Bool) => (bif (!(x5 == x6)) then (some false) else (((hold_Text.f x2)).bind fun (x7 : (ByteArray × Int)) => (((bursarref14_May.f x2)).bind fun (x8 : Bool) => (bif (!x8) then (bif ((ByteArray.toList x7.1) == (ByteArray.toList (bs []))) then (bif (x7.2 == (1 : Int)) then (some true) else (some false)) else (some false)) else (((hold_Parse.f x7.1)).bind fun (x9 : ((ByteArray × (ByteArray × (ByteArray × (Int × (Int × (Int × Bool)))))) × Int)) => (((bursarref14_Text.f x2)).bind fun (x10 : ByteArray) => (bif ((ByteArray.toList x7.1) == (ByteArray.toList x10)) then (bif (x7.2 == (0 : Int)) then (bif (((ByteArray.toList x9.1.1) == (ByteArray.toList x2.1)) && (((ByteArray.toList x9.1.2.1) == (ByteArray.toList x2.2.1)) && (((ByteArray.toList x9.1.2.2.1) == (ByteArray.toList x2.2.2.1)) && ((x9.1.2.2.2.1 == x2.2.2.2.1) && ((x9.1.2.2.2.2.1 == x2.2.2.2.2.1) && ((x9.1.2.2.2.2.2.1 == x2.2.2.2.2.2.1) && ((x9.1.2.2.2.2.2.2 == x2.2.2.2.2.2.2) && true))))))) then (bif (x9.2 == (0 : Int)) then (some true) else (some false)) else (some false)) else (some false)) else (some false))))))))))))))) else none) else (((hold_Parse.f a.2)).bind fun (x3 : ((ByteArray × (ByteArray × (ByteArray × (Int × (Int × (Int × Bool)))))) × Int)) => (((bursarref14_Parse.f a.2)).bind fun (x4 : ((ByteArray × (ByteArray × (ByteArray × (Int × (Int × (Int × Bool)))))) × Bool)) => (bif (!(((ByteArray.toList x3.1.1) == (ByteArray.toList x4.1.1)) && (((ByteArray.toList x3.1.2.1) == (ByteArray.toList x4.1.2.1)) && (((ByteArray.toList x3.1.2.2.1) == (ByteArray.toList x4.1.2.2.1)) && ((x3.1.2.2.2.1 == x4.1.2.2.2.1) && ((x3.1.2.2.2.2.1 == x4.1.2.2.2.2.1) && ((x3.1.2.2.2.2.2.1 == x4.1.2.2.2.2.2.1) && ((x3.1.2.2.2.2.2.2 == x4.1.2.2.2.2.2.2) && true)))))))) then (some false) else (bif (!((x3.2 == (0 : Int)) == x4.2)) then (some false) else (bif (!x4.2) then (bif (x3.2 != (4 : Int)) then (some false) else (((hold_Ref.f a.2)).bind fun (x5 : Bool) => (((bursarref14_Ref.f a.2)).bind fun (x6 : Bool) => (bif (!(x5 == x6)) then (some false) else (((hold_Text.f x2)).bind fun (x7 : (ByteArray × Int)) => (((bursarref14_May.f x2)).bind fun (x8 : Bool) => (bif (!x8) then (bif ((ByteArray.toList x7.1) == (ByteArray.toList (bs []))) then (bif (x7.2 == (1 : Int)) then (some true) else (some false)) else (some false)) else (((hold_Parse.f x7.1)).bind fun (x9 : ((ByteArray × (ByteArray × (ByteArray × (Int × (Int × (Int × Bool)))))) × Int)) => (((bursarref14_Text.f x2)).bind fun (x10 : ByteArray) => (bif ((ByteArray.toList x7.1) == (ByteArray.toList x10)) then (bif (x7.2 == (0 : Int)) then (bif (((ByteArray.toList x9.1.1) == (ByteArray.toList x2.1)) && (((ByteArray.toList x9.1.2.1) == (ByteArray.toList x2.2.1)) && (((ByteArray.toList x9.1.2.2.1) == (ByteArray.toList x2.2.2.1)) && ((x9.1.2.2.2.1 == x2.2.2.2.1) && ((x9.1.2.2.2.2.1 == x2.2.2.2.2.1) && ((x9.1.2.2.2.2.2.1 == x2.2.2.2.2.2.1) && ((x9.1.2.2.2.2.2.2 == x2.2.2.2.2.2.2) && true))))))) then (bif (x9.2 == (0 : Int)) then (some true) else (some false)) else (some false)) else (some false)) else (some false))))))))))) else (((hold_Ref.f a.2)).bind fun (x5 : Bool) => (((bursarref14_Ref.f a.2)).bind fun (x6 : Bool) => (bif (!(x5 == x6)) then (some false) else (((hold_Text.f x2)).bind fun (x7 : (ByteArray × Int)) => (((bursarref14_May.f x2)).bind fun (x8 : Bool) => (bif (!x8) then (bif ((ByteArray.toList x7.1) == (ByteArray.toList (bs []))) then (bif (x7.2 == (1 : Int)) then (some true) else (some false)) else (some false)) else (((hold_Parse.f x7.1)).bind fun (x9 : ((ByteArray × (ByteArray × (ByteArray × (Int × (Int × (Int × Bool)))))) × Int)) => (((bursarref14_Text.f x2)).bind fun (x10 : ByteArray) => (bif ((ByteArray.toList x7.1) == (ByteArray.toList x10)) then (bif (x7.2 == (0 : Int)) then (bif (((ByteArray.toList x9.1.1) == (ByteArray.toList x2.1)) && (((ByteArray.toList x9.1.2.1) == (ByteArray.toList x2.2.1)) && (((ByteArray.toList x9.1.2.2.1) == (ByteArray.toList x2.2.2.1)) && ((x9.1.2.2.2.1 == x2.2.2.2.1) && ((x9.1.2.2.2.2.1 == x2.2.2.2.2.1) && ((x9.1.2.2.2.2.2.1 == x2.2.2.2.2.2.1) && ((x9.1.2.2.2.2.2.2 == x2.2.2.2.2.2.2) && true))))))) then (bif (x9.2 == (0 : Int)) then (some true) else (some false)) else (some false)) else (some false)) else (some false)))))))))))))))))
theorem bursarlaw14_HoldTexts.ok : ∀ a : Vals bursarlaw14_HoldTexts.As.tys, fnK P bursarlaw14_HoldTexts.H (lp []) 13 bursarlaw14_HoldTexts.As bursarlaw14_HoldTexts.m a some = bursarlaw14_HoldTexts.f a := fun a => by kernel_rfl
noncomputable abbrev bursarlaw14_HoldTexts.row : Row := fnRow 13 bursarlaw14_HoldTexts.As bursarlaw14_HoldTexts.m bursarlaw14_HoldTexts.f
theorem bursarlaw14_HoldTexts.row_ok : RowOK P G1 bursarlaw14_HoldTexts.row := row_told bursarlaw14_HoldTexts.hok (lp_of (l := []) trivial) (fun _ => rfl) bursarlaw14_HoldTexts.ok
end Go.Proofs.YtbjajidphaeogaaDoor
end
section
/- Holds and their texts: the law HoldTexts. By this session. -/
set_option linter.unusedVariables false
set_option linter.unusedSimpArgs false
namespace Go.Proofs.YtbjajidphaeogaaDoor
open Go Go.Fw
def cut30 (s : ByteArray) : ByteArray := bif decide (s.size > 30) then s.extract 0 30 else s
theorem cut30_size (s : ByteArray) : (cut30 s).size ≤ 30 := by
  unfold cut30
  by_cases h : s.size > 30
  · rw [decide_eq_true h, cond_true, ByteArray.size_extract]; omega
  · rw [decide_eq_false h, cond_false]; omega
theorem text30_is (s : ByteArray) : bursarlaw14_text.f s = some (cut30 s) := by
  unfold bursarlaw14_text.f cut30
  by_cases h : s.size > 30
  · rw [decide_eq_true h, show decide ((s.size : Int) > 30) = true from decide_eq_true (by omega), show decide ((30 : Int) ≤ (s.size : Int)) = true from decide_eq_true (by omega)]; rfl
  · rw [decide_eq_false h, show decide ((s.size : Int) > 30) = false from decide_eq_false (by omega)]; rfl
def few30 (h : Hd) : Hd := (cut30 h.1, (cut30 h.2.1, (cut30 h.2.2.1, h.2.2.2)))
theorem few30_is (h : Hd) : bursarlaw14_Few.f h = some (few30 h) := by
  unfold bursarlaw14_Few.f
  rw [text30_is, text30_is, text30_is]; rfl
theorem txtH_len {h : Hd} (hm : mayB h = true) : (txtH h).length ≤ 200 := by
  obtain ⟨p1, p2, p3, p4, p5, p6, p7⟩ := may_parts hm
  rw [eq_bs h.1, bs_size] at p1
  rw [eq_bs h.2.1, bs_size] at p2
  rw [eq_bs h.2.2.1, bs_size] at p3
  have a := txt_len h.2.2.2.1
  have b := txt_len h.2.2.2.2.1
  have c := padD_len 10 h.2.2.2.2.2.1.toNat
  unfold txtH
  simp only [List.length_append, List.length_singleton, p1, p2, p3, c]
  omega
theorem HoldTexts_cut (h : Hd) (s : ByteArray) (hs : 120 < s.size) : bursarlaw14_HoldTexts.f (h, s) = bursarlaw14_HoldTexts.f (h, s.extract 0 120) := by
  have e : (s.extract 0 120).size = 120 := by rw [ByteArray.size_extract]; omega
  have h1 : (s.size : Int) > 120 := by omega
  have h2 : (120 : Int) ≤ (s.size : Int) := by omega
  have h3 : ¬ ((s.extract 0 120).size : Int) > 120 := by rw [e]; omega
  unfold bursarlaw14_HoldTexts.f
  simp only [h1, h2, h3, decide_true, decide_false, Bool.and_self, cond_true, cond_false]
theorem HoldTexts_few {h : Hd} {l : List UInt8} (ha : Am h.2.2.2.1) (hl : l.length ≤ 120) : bursarlaw14_HoldTexts.f (h, bs l) = some true := by
  have hn : ¬ ((bs l).size : Int) > 120 := by rw [bs_size]; omega
  unfold bursarlaw14_HoldTexts.f
  rw [few30_is, Option.bind_some]
  simp only [hn, decide_false, cond_false]
  obtain ⟨q, a1, a2, a3⟩ := Parse_code (l := l) (by omega)
  obtain ⟨q', b1, b2, b3⟩ := Parse_ref (l := l) (by omega)
  rw [a1, Option.bind_some, b1, Option.bind_some, hold_Ref_is _ (by rw [bs_size]; omega), ref_Ref_is]
  have hf : Am (few30 h).2.2.2.1 := ha
  have hfs : (few30 h).1.size ≤ 4611686018427387904 := Nat.le_trans (cut30_size h.1) (by decide)
  obtain ⟨k, hk⟩ : ∃ k, few30 h = k := ⟨_, rfl⟩
  rw [hk] at hf hfs ⊢
  rw [Text_hold_is hfs hf, ref_May_is]
  have last : (((some (bif mayB k then (bs (txtH k), (0 : Int)) else (bs [], (1 : Int))) : Option (ByteArray × Int))).bind fun (x7 : (ByteArray × Int)) => (((some (mayB k) : Option Bool)).bind fun (x8 : Bool) => (bif (!x8) then (bif ((ByteArray.toList x7.1) == (ByteArray.toList (bs []))) then (bif (x7.2 == (1 : Int)) then (some true) else (some false)) else (some false)) else (((hold_Parse.f x7.1)).bind fun (x9 : ((ByteArray × (ByteArray × (ByteArray × (Int × (Int × (Int × Bool)))))) × Int)) => (((bursarref14_Text.f k)).bind fun (x10 : ByteArray) => (bif ((ByteArray.toList x7.1) == (ByteArray.toList x10)) then (bif (x7.2 == (0 : Int)) then (bif (((ByteArray.toList x9.1.1) == (ByteArray.toList k.1)) && (((ByteArray.toList x9.1.2.1) == (ByteArray.toList k.2.1)) && (((ByteArray.toList x9.1.2.2.1) == (ByteArray.toList k.2.2.1)) && ((x9.1.2.2.2.1 == k.2.2.2.1) && ((x9.1.2.2.2.2.1 == k.2.2.2.2.1) && ((x9.1.2.2.2.2.2.1 == k.2.2.2.2.2.1) && ((x9.1.2.2.2.2.2.2 == k.2.2.2.2.2.2) && true))))))) then (bif (x9.2 == (0 : Int)) then (some true) else (some false)) else (some false)) else (some false)) else (some false))))))) = some true := by
    cases hm : mayB k with
    | false => simp
    | true =>
      obtain ⟨c, c1, _, c3⟩ := Parse_code (l := txtH k) (txtH_len hm)
      have := c3 k ⟨hm, hf, rfl⟩
      subst this
      simp only [cond_true, Option.bind_some, Bool.not_true, cond_false]
      rw [c1, Text_ref_is hm hf]
      simp
  have same : ∀ z : Hd, (((ByteArray.toList z.1) == (ByteArray.toList z.1)) && (((ByteArray.toList z.2.1) == (ByteArray.toList z.2.1)) && (((ByteArray.toList z.2.2.1) == (ByteArray.toList z.2.2.1)) && ((z.2.2.2.1 == z.2.2.2.1) && ((z.2.2.2.2.1 == z.2.2.2.2.1) && ((z.2.2.2.2.2.1 == z.2.2.2.2.2.1) && ((z.2.2.2.2.2.2 == z.2.2.2.2.2.2) && true))))))) = true := fun z => by simp
  rcases a2 with rfl | ⟨g, hg, rfl⟩
  · rcases b2 with rfl | ⟨g, hg, rfl⟩
    · rw [same]
      simp only [Option.bind_some, beq_self_eq_true, Bool.not_true, cond_false]
      exact last
    · have := a3 g hg
      injection this with _ h
      cases h
  · have := b3 g hg
    subst this
    rw [same]
    simp only [Option.bind_some, beq_self_eq_true, Bool.not_true, cond_false]
    exact last
theorem HoldTexts_is {h : Hd} {s : ByteArray} (ha : Am h.2.2.2.1) : bursarlaw14_HoldTexts.f (h, s) = some true := by
  by_cases hs : 120 < s.size
  · rw [HoldTexts_cut h s hs]
    obtain ⟨l, hl⟩ : ∃ l, (s.extract 0 120).data.toList = l := ⟨_, rfl⟩
    have e := eq_bs (s.extract 0 120)
    rw [hl] at e
    rw [e]
    refine HoldTexts_few ha ?_
    have := congrArg ByteArray.size e
    rw [ByteArray.size_extract, bs_size] at this
    omega
  · rw [eq_bs s]
    refine HoldTexts_few ha ?_
    have := congrArg ByteArray.size (eq_bs s)
    rw [bs_size] at this
    omega
end Go.Proofs.YtbjajidphaeogaaDoor
end
section
/- every hold has a text that is parsed as it was. -/
set_option linter.unusedVariables false
set_option linter.unusedSimpArgs false
namespace Go.Proofs.YtbjajidphaeogaaDoor.holdTexts
open Go Go.Fw Go.ChangeShapes Go.WideShapes Go.ChangeAt Go.RowKit
theorem own : ownKnob Tryd.prog.godebug = none := by kernel_rfl
theorem laidOut : laidOutB Tryd.prog = true := by kernel_rfl
/-- The door's own heap meets the condition. -/
theorem door_met (os : Os) (args : Array Value) : laidMetH Tryd.prog Rows.holdTextsRow.laid ((World.doorLaid Tryd.prog 400 os).forCall (fun _ _ => 0) ⟨#[], args, []⟩).memory :=
  laidMetH_of_parts3 (fuel := 8) (laidMet_of_run' 8 (by kernel_rfl) (by kernel_rfl)) (by kernel_rfl) (by kernel_rfl)
theorem told {W : World} (h : laidMetH Tryd.prog Rows.holdTextsRow.laid W) : Glob ⟨W, fun b => b < W.heap.size, fun _ => False, fun _ => 0, fun _ => 0, G1⟩ := by
  rw [MakeChecks.laidMetH_plain _ _ _ (by kernel_rfl)] at h
  have f0 := globAt_tab (P := Tryd.prog) (g := 0) (k := .u64) (zs := [1, 10, 100, 1000, 10000, 100000, 1000000, 10000000, 100000000, 1000000000, 10000000000, 100000000000, 1000000000000, 10000000000000, 100000000000000, 1000000000000000, 10000000000000000, 100000000000000000, 1000000000000000000, 10000000000000000000]) (by kernel_rfl) (Lib.tabIs_of_head (g := 0) (by kernel_rfl) (by kernel_rfl) Tryd.underlying177 Tryd.underlying89 (by kernel_rfl) (by kernel_rfl) (laidMet.tail (laidMet.tail h)))
  have f3 := globAt_err (P := Tryd.prog) (g := 3) (by kernel_rfl) (laid_err (g := 3) (laidMet.tail (laidMet.tail (laidMet.tail h))) (by kernel_rfl) (by kernel_rfl) Tryd.underlying114)
  have f2 := globAt_err (P := Tryd.prog) (g := 2) (by kernel_rfl) (laid_err (g := 2) (laidMet.tail (laidMet.tail (laidMet.tail (laidMet.tail h)))) (by kernel_rfl) (by kernel_rfl) Tryd.underlying114)
  exact (glob_cons f0 (glob_cons f2 (glob_cons f3 glob_none')))
set_option maxRecDepth 100000 in
theorem lifted (os : Os) (started : os.Started) (H : Type) (enc : TypeId × Value → H) :
    ReturnsInHanded {} Tryd.checked os 13 .any (fun w args => (Rows.holdTextsSpec.pre enc Tryd.prog Tryd.f13 [] false w args ∧ laidMetH Tryd.prog Rows.holdTextsRow.laid w) ∧ sizedMet enc Tryd.prog Tryd.f13 (OpenSpec.ofChange Rows.holdTextsSpec) false w args)
      (Rows.holdTextsSpec.post enc Tryd.prog Tryd.f13 false true false false) := by
  refine returnsInHanded_of_change_and (C := Tryd.checked) (X := fun w _ => laidMetH Tryd.prog Rows.holdTextsRow.laid w) (fun _ _ _ hh h => h.of_heap hh) own started (by kernel_rfl) Tryd.func13
    (ChangeSpec.witness_shaped (enc := enc) (C := Tryd.checked) (os := os) (X := fun w _ => laidMetH Tryd.prog Rows.holdTextsRow.laid w) false (World.doorLaid Tryd.prog 400 os) #[.agg #[.string ByteArray.empty, .string ByteArray.empty, .string ByteArray.empty, .int .i64 0, .int .i64 0, .int .i64 0, .bool false], .string ByteArray.empty] 8 rfl (World.shaped_of_RefB (by kernel_rfl) (by kernel_rfl)) (by kernel_rfl) (by kernel_rfl) (by kernel_rfl) (door_met os _)) ?_
  intro W base args ds gs before hval hW _ _ hL _
  exact law_call (P := Tryd.prog) (g := 13) (tb := Tryd.f13.resultTypes.getD 0 0) laidOut bursarlaw14_HoldTexts.row_ok (told hL) (by kernel_rfl) (fun a => by kernel_rfl) (by kernel_rfl) (by kernel_rfl) rfl
    (fun ds h => match ds, h with | [_, _], _ => ⟨rfl, rfl, rfl⟩) (fun a ha => HoldTexts_is (bounds_i64 ha.1.2.2.2.1)) hval hW
set_option maxRecDepth 100000 in
theorem over : Rows.holdTextsRow.holds Tryd.pinned (OpenSpec.ofChange Rows.holdTextsSpec) :=
  OpenClaim.holds_of_wide 13 Tryd.f13 rfl rfl rfl rfl rfl rfl rfl ⟨rfl, rfl, rfl, rfl, rfl⟩ rfl rfl rfl rfl rfl (by kernel_rfl) Tryd.func13 (by kernel_rfl)
    (of_decide_eq_true (by kernel_rfl)) (by unfold Func.isWrapper; first | (rw [if_pos (by decide +kernel)]; kernel_rfl) | (rw [if_neg (by decide +kernel)]; exact ⟨rfl, rfl⟩))
    (fun os started H enc _ => lifted os started H enc)
theorem plainParams : (Tryd.f13.params.toList.all fun t => !(Tryd.prog.wantsStandIn t)) = true := by kernel_rfl
theorem card : Rows.HoldTextsCardSaid :=
  Claim7.holds_tied_plain_at .later [] [.data, .data, .data, .sentinel, .sentinel] true (true, "f731de008941817ed7b362de19589baba67c7bb3ef52ee2c4bb9631146d14688") true
    over (fun _ h => by cases h) (by kernel_rfl) (fun _ h => by cases h) holdTexts_row_tie rfl ⟨rfl, rfl⟩ (by kernel_rfl) rfl
    (fun f fn hf hfn => by
      obtain rfl : f = 13 := Option.some.inj ((show Tryd.prog.funcNamed "bursar/bursarlaw14.HoldTexts" = some 13 by kernel_rfl).symm.trans hf) |>.symm
      obtain rfl : fn = Tryd.f13 := (Option.some.inj (Tryd.func13.symm.trans hfn)).symm
      exact ⟨by kernel_rfl, fun j t ht => by
        have h := List.all_eq_true.1 plainParams t (by rw [← Array.getElem?_toList] at ht; exact List.mem_of_getElem? ht)
        exact (show Tryd.prog.wantsStandIn t = false by simpa using h)⟩)
    (by kernel_rfl)
end Go.Proofs.YtbjajidphaeogaaDoor.holdTexts
namespace Go.Proofs.YtbjajidphaeogaaDoor
/-- The given statement. -/
theorem holdTexts_holds : Rows.HoldTextsCardSaid := holdTexts.card
#print axioms holdTexts_holds
end Go.Proofs.YtbjajidphaeogaaDoor
end
