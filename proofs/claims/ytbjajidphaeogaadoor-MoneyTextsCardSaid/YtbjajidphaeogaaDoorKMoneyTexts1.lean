/- every amount has a text that is parsed as it was. -/
import Derived.WalkKit
import Derived.ProofKit
import Derived.OpenShut
import Derived.ShutString
import Derived.ChangeOld
import Derived.Carry
import Derived.Below
import Derived.SizedLaws
import Derived.Laws.Strings
import Derived.Lib.Bytealg
import Derived.Lib.ParseIntB
import Derived.Lib.ItoaNum
import Derived.Test.YtbjajidphaeogaaDoorProg
import Derived.KernelRfl
import Derived.Laws.Externs
import Derived.Shelf.Strconv.Itoa1
import Derived.Shelf.Strconv.Itoa2
import Derived.Shelf.LaysM
import Derived.Lib.Walk
import Derived.Lib.ItoaMem
import Derived.BigCall
import Derived.BigGuard
import Derived.Shelf.Pu.ParseUintPublic10
import Derived.Shelf.Pu.ErrVarParseUint
import Derived.Test.YtbjajidphaeogaaDoorRows
import Derived.Test.YtbjajidphaeogaaDoorCards
import Derived.Test.YtbjajidphaeogaaDoorTie
import Derived.SevenTiedAt
import Derived.LaidMore
import Derived.Test.YtbjajidphaeogaaDoorW3
section
/- A law's call, from its arguments as they may be read: it returns true, and what was handed in reads as it did. By this session. -/
set_option linter.unusedVariables false
set_option linter.unusedSimpArgs false
namespace Go.Fw
open Go.ChangeShapes Go.WideShapes Go.ChangeAt Go.RowKit
/-- are these types of the program these of plain data? -/
def okTys (P : Program) : List TypeId → List Ty → Bool
  | [], [] => true
  | t :: ts, T :: Ts => okTy P 40 t T && (P.readableRec t && (decide (t < P.types.size) && okTys P ts Ts))
  | _, _ => false
def FitAll : (Ts : List Ty) → Vals Ts → Prop
  | [], _ => True
  | [T], x => T.fit x
  | T :: T' :: Ts, x => T.fit x.1 ∧ FitAll (T' :: Ts) x.2
section
variable {P : Program} {H : Type} {enc : TypeId × Value → H} {W : World} {base : Nat}
theorem read_all : ∀ {ts : List TypeId} {Ts : List Ty} {vs : List Value} {ds : List (DataW H)} {ps : List MemPlace}, okTys P ts Ts = true → DataW.TrodAll enc P W 0 (fun _ => true) true ts vs ds ps →
    (∀ (j : Nat) t v, ts[j]? = some t → vs[j]? = some v → Value.okWide P W .any base t v) →
    ∃ a : Vals Ts, FitAll Ts a ∧ ds.length = ts.length ∧ vs.length = (elts Ts a).length ∧ (∀ (j : Nat) (d : D), (elts Ts a)[j]? = some d → ∃ v, vs[j]? = some v ∧ RelD W (fun b => b < W.heap.size) d v)
  | [], [], vs, ds, ps, hk, h, hv => by
    obtain ⟨rfl, rfl, rfl⟩ := trodAll_nil h
    exact ⟨(), trivial, rfl, rfl, fun j d hd => by simp [elts] at hd⟩
  | [], _ :: _, vs, ds, ps, hk, h, hv => by simp [okTys] at hk
  | _ :: _, [], vs, ds, ps, hk, h, hv => by simp [okTys] at hk
  | t :: ts, T :: Ts, vs, ds, ps, hk, h, hv => by
    simp only [okTys, Bool.and_eq_true] at hk
    obtain ⟨hk, _, _, hks⟩ := hk
    obtain ⟨v, vs', d, ds', p, q, rfl, rfl, rfl, h0, h1⟩ := trodAll_cons h
    obtain ⟨y, hy, hr⟩ := read_arg hk (hv 0 t v rfl rfl) h0
    obtain ⟨a, ha, hl, hls, hrs⟩ := read_all hks h1 fun j t v ht hj => hv (j + 1) t v ht hj
    cases Ts with
    | nil =>
      cases ts with
      | cons => simp [okTys] at hks
      | nil =>
        obtain ⟨rfl, rfl, rfl⟩ := trodAll_nil h1
        refine ⟨y, hy, rfl, rfl, fun j d hd => ?_⟩
        cases j with
        | zero => simp [elts] at hd; subst hd; exact ⟨v, rfl, hr⟩
        | succ j => simp [elts] at hd
    | cons T' Ts =>
      refine ⟨(y, a), ⟨hy, ha⟩, by simp [hl], by simp [elts, hls], fun j d hd => ?_⟩
      cases j with
      | zero => simp [elts] at hd; subst hd; exact ⟨v, rfl, hr⟩
      | succ j => simp only [elts, List.getElem?_cons_succ] at hd; exact hrs j d hd
theorem trod_back (hl : laidOutB P = true) {W' : World} (hb : Below W.heap.size W W') : ∀ {ts : List TypeId} {Ts : List Ty} {vs : List Value} {ds : List (DataW H)} {ps : List MemPlace}, okTys P ts Ts = true → DataW.TrodAll enc P W 0 (fun _ => true) true ts vs ds ps →
    DataW.TrodAll enc P W' 0 (fun b => decide (b < W.heap.size)) true ts vs ds ps
  | [], [], vs, ds, ps, hk, h => by
    obtain ⟨rfl, rfl, rfl⟩ := trodAll_nil h
    exact trodAll_mk0
  | [], _ :: _, vs, ds, ps, hk, h => by simp [okTys] at hk
  | _ :: _, [], vs, ds, ps, hk, h => by simp [okTys] at hk
  | t :: ts, T :: Ts, vs, ds, ps, hk, h => by
    simp only [okTys, Bool.and_eq_true, decide_eq_true_eq] at hk
    obtain ⟨hk, hrr, hsz, hks⟩ := hk
    obtain ⟨v, vs', d, ds', p, q, rfl, rfl, rfl, h0, h1⟩ := trodAll_cons h
    have lt : ∀ x ∈ p, x.block < W.heap.size := by
      obtain ⟨m, hm⟩ := h0
      exact DataW.trod_lt m _ _ _ hm
    exact trodAll_cons_mk (Below.trod hl hrr hsz h0 hb lt) (trod_back hl hb hks h1)
/-- a law's call -/
theorem law_call {G : Nat → Option (List D)} {fn : Func} {g : FuncId} {As : Shs} {F : Vals As.tys → Option Bool} {s : ChangeSpec} {tb : TypeId} (hl : laidOutB P = true)
    (hok : RowOK P G (fnRow g As [(false, .b)] F)) (hgl : Glob ⟨W, fun b => b < W.heap.size, fun _ => False, fun _ => 0, fun _ => 0, G⟩) (hty : okTys P fn.params.toList As.tys = true) (hdec : ∀ a : Vals As.tys, decArgs As (elts As.tys a) = some a)
    (hres : fn.resultTypes = #[tb]) (htb : P.underlying tb = some .bool) (hvars : s.vars = []) (hspec : ∀ ds : List (DataW H), ds.length = fn.params.toList.length → (s.fn H ds).results = [.lit (.bool true)] ∧ (s.fn H ds).args = ds ∧ (s.fn H ds).vars = [])
    (hlaw : ∀ a : Vals As.tys, FitAll As.tys a → F a = some true)
    {args : Array Value} {ds gs : List (DataW H)} {before : List MemPlace} (hval : ∀ (j : Nat) t v, fn.params[j]? = some t → args[j]? = some v → Value.okWide P W .any base t v)
    (hW : DataW.Whole enc P fn.params.toList s.vars false W args.toList ds gs before) :
    Calls P g args W fun e W' => ∃ v, e = .returned v ∧ s.post enc P fn false true false false W args v W' := by
  have hW' := hW
  obtain ⟨p, q, hA, hV, rfl, hfz, hnd⟩ := hW
  obtain ⟨a, ha, hdl, hvl, hr⟩ := read_all hty hA fun j t v ht hv => hval j t v (by rw [← Array.getElem?_toList]; exact ht) (by rw [← Array.getElem?_toList]; exact hv)
  rw [hvars] at hV
  obtain ⟨rfl, rfl⟩ := trodVars_none hV
  have call := (hok _ a true (hdec a) (hlaw a ha)).2
  refine (top_call (W := W) (vs := args) call hgl (by rw [← Array.length_toList]; exact hvl) (fun j d hd => ?_)).mono ?_
  · obtain ⟨v, hv, hrel⟩ := hr j d hd
    rw [Array.getElem?_toList] at hv
    rw [Array.getD_eq_getD_getElem?, hv]
    exact hrel
  · rintro e W' ⟨⟨v, I', rfl, hx⟩, bel⟩
    have hv : v = .bool true := by
      have hx' : RelX W' I' (fun _ => False) (.b true) v := hx
      cases hx'; rfl
    subst hv
    obtain ⟨s1, s2, s3⟩ := hspec (ds ++ []) (by rw [List.append_nil]; exact hdl)
    refine ⟨_, rfl, ds, [], p ++ [], [], p, [], hW', ?_, ?_, ?_, bel.frame _, fun h => by cases h⟩
    · rw [s1, hres]
      exact trodAll_mk1 (shut_bool htb _)
    · rw [s2, List.append_nil]
      exact trod_back hl bel hty hA
    · rw [s3, hvars]; rfl
end
end Go.Fw
end
section
/- Loops as rounds, texts and numbers: plain laws. By this session. -/
set_option linter.unusedVariables false
set_option linter.unusedSimpArgs false
namespace Go.Fw
theorem wrap_i64 {n : Int} (h1 : -9223372036854775808 ≤ n) (h2 : n ≤ 9223372036854775807) : IntKind.wrap .i64 n = n := by rw [IntKind.wrap_i64]; omega
theorem wrap_u64 (n : Int) : IntKind.wrap .u64 n = n % 18446744073709551616 := by
  show (if (false && decide (n % 18446744073709551616 ≥ 9223372036854775808)) = true then n % 18446744073709551616 - 18446744073709551616 else n % 18446744073709551616) = _
  simp
theorem wrap_u8 (n : Int) : IntKind.wrap .u8 n = n % 256 := by
  show (if (false && decide (n % 256 ≥ 128)) = true then n % 256 - 256 else n % 256) = _
  simp
theorem wrap_up {n : Nat} (h : n < 9223372036854775807) : IntKind.wrap .i64 ((n : Int) + 1) = ((n + 1 : Nat) : Int) := by rw [wrap_i64 (by omega) (by omega)]; omega
theorem bt_bound (s : ByteArray) (i : Nat) : 0 ≤ bt s i ∧ bt s i ≤ 255 := by
  unfold bt
  have := (s.data.toList.getD i 0).toNat_lt
  omega
section
variable {S R : Type} {t : S → Option (S ⊕ R)}
theorem rounds_end {s : S} {r : R} (h : t s = some (.inr r)) : rounds t s = some r := by rw [rounds_eq, h]
theorem rounds_next {s s' : S} (h : t s = some (.inl s')) : rounds t s = rounds t s' := by rw [rounds_eq, h]
theorem rounds_to (st : Nat → S) (n : Nat) (h : ∀ i, i < n → t (st i) = some (.inl (st (i + 1)))) : rounds t (st 0) = rounds t (st n) := by
  induction n with
  | zero => rfl
  | succ n ih => rw [ih fun i hi => h i (by omega), rounds_next (h n (by omega))]
/-- rounds that go on while it is so -/
theorem rounds_all (st : Nat → S) (p : Nat → Bool) (out fin : R) (n : Nat) (h : ∀ i, i < n → t (st i) = some (bif p i then .inl (st (i + 1)) else .inr out)) (hf : t (st n) = some (.inr fin)) :
    rounds t (st 0) = some (bif (List.range n).all p then fin else out) := by
  have go : ∀ k, k ≤ n → rounds t (st 0) = bif (List.range k).all p then rounds t (st k) else some out := by
    intro k
    induction k with
    | zero => intro _; rfl
    | succ k ih =>
      intro hk
      rw [ih (by omega), List.range_succ, List.all_append]
      cases (List.range k).all p with
      | false => rfl
      | true =>
        have h1 := h k (by omega)
        cases hp : p k with
        | false => rw [hp] at h1; simp [hp, rounds_end h1]
        | true => rw [hp] at h1; simp [hp, rounds_next h1]
  rw [go n (Nat.le_refl _), rounds_end hf]
  cases (List.range n).all p <;> rfl
end
/-- sums of so many -/
def sumTo (f : Nat → Int) : Nat → Int
  | 0 => 0
  | n + 1 => sumTo f n + f n
theorem sumTo_back (f : Nat → Int) : ∀ n, sumTo (fun j => f (n - 1 - j)) n = sumTo f n := by
  have first : ∀ (g : Nat → Int) (n : Nat), sumTo g (n + 1) = g 0 + sumTo (fun j => g (j + 1)) n := by
    intro g n
    induction n with
    | zero => simp [sumTo]
    | succ n ih => rw [sumTo, ih, sumTo]; omega
  have same : ∀ (g h : Nat → Int) (n : Nat), (∀ j, j < n → g j = h j) → sumTo g n = sumTo h n := by
    intro g h n
    induction n with
    | zero => intro _; rfl
    | succ n ih => intro hh; rw [sumTo, sumTo, ih fun j hj => hh j (by omega), hh n (by omega)]
  intro n
  induction n with
  | zero => rfl
  | succ n ih =>
    rw [first, sumTo, ← ih, same (fun j => f (n + 1 - 1 - (j + 1))) (fun j => f (n - 1 - j)) n fun j hj => by
      have : n + 1 - 1 - (j + 1) = n - 1 - j := by omega
      simp only [this]]
    simp only [Nat.add_sub_cancel, Nat.sub_zero]
    omega
theorem sumTo_bound {f : Nat → Int} {b : Int} : ∀ {n : Nat}, (∀ j, j < n → 0 ≤ f j ∧ f j ≤ b) → 0 ≤ sumTo f n ∧ sumTo f n ≤ b * n
  | 0, _ => by simp [sumTo]
  | n + 1, h => by
    have ih := sumTo_bound (f := f) (b := b) (n := n) fun j hj => h j (by omega)
    have := h n (by omega)
    have e : b * ((n + 1 : Nat) : Int) = b * n + b := by rw [Int.natCast_add, Int.mul_add]; simp
    rw [sumTo, e]
    omega
theorem sumTo_same {g h : Nat → Int} : ∀ {n : Nat}, (∀ j, j < n → g j = h j) → sumTo g n = sumTo h n
  | 0, _ => rfl
  | n + 1, hh => by rw [sumTo, sumTo, sumTo_same fun j hj => hh j (by omega), hh n (by omega)]
/-! ### lists -/
theorem getD_at {α : Type} {l : List α} {i : Nat} {d : α} (h : i < l.length) : l.getD i d = l[i] := by simp [List.getD_eq_getElem?_getD, List.getElem?_eq_getElem h]
theorem take_up {α : Type} {l : List α} {i : Nat} (d : α) (h : i < l.length) : l.take (i + 1) = l.take i ++ [l.getD i d] := by
  rw [List.take_succ_eq_append_getElem h, getD_at h]
theorem range_all {α : Type} (p : α → Bool) (d : α) (l : List α) : ((List.range l.length).all fun i => p (l.getD i d)) = l.all p := by
  rw [Bool.eq_iff_iff, List.all_eq_true, List.all_eq_true]
  constructor
  · intro h x hx
    obtain ⟨i, hi, rfl⟩ := List.getElem_of_mem hx
    have := h i (List.mem_range.2 hi)
    rwa [getD_at hi] at this
  · intro h i hi
    have hi := List.mem_range.1 hi
    rw [getD_at hi]
    exact h _ (List.getElem_mem hi)
/-- is there room for one more? -/
theorem room {n m : Nat} (w k : Nat) (h : n ≤ m) (hw : (m + 1) * w ≤ k) : Nat.ble ((n + 1) * w) k = true := Nat.ble_eq_true_of_le (Nat.le_trans (Nat.mul_le_mul_right w (by omega)) hw)
end Go.Fw
end
section
/- Texts as lists of octets; digits of numbers. By this session. -/
set_option linter.unusedVariables false
set_option linter.unusedSimpArgs false
namespace Go.Fw
open Go
theorem eq_bs (s : ByteArray) : s = bs s.data.toList := by cases s; simp [bs]
theorem bs_data (l : List UInt8) : (bs l).data = l.toArray := rfl
theorem bs_list (l : List UInt8) : (bs l).data.toList = l := by simp [bs]
theorem bs_toList (l : List UInt8) : (bs l).toList = l := by rw [ByteArray.toList_eq, bs_list]
theorem bs_size (l : List UInt8) : (bs l).size = l.length := by show (bs l).data.size = _; simp [bs]
theorem bs_append (l r : List UInt8) : bs l ++ bs r = bs (l ++ r) := by
  apply ByteArray.ext
  rw [ByteArray.data_append]
  simp [bs]
theorem bs_extract (l : List UInt8) (i j : Nat) : (bs l).extract i j = bs ((l.take j).drop i) := by
  apply ByteArray.ext
  rw [ByteArray.data_extract]
  apply Array.toList_inj.1
  simp [bs, List.extract_eq_take_drop, List.drop_take]
theorem bt_bs (l : List UInt8) (i : Nat) : bt (bs l) i = ((l.getD i 0).toNat : Int) := by unfold bt; rw [bs_list]
theorem bs_inj {l r : List UInt8} : bs l = bs r ↔ l = r := ⟨fun h => by rw [← bs_list l, h, bs_list], fun h => by rw [h]⟩
theorem texts_eq (x y : ByteArray) : (ByteArray.toList x == ByteArray.toList y) = decide (x = y) := by
  rw [ByteArray.toList_eq, ByteArray.toList_eq, Bool.eq_iff_iff, beq_iff_eq, decide_eq_true_iff]
  constructor
  · intro h
    cases x; cases y
    simp only [Array.toList_inj] at h
    rw [h]
  · intro h; rw [h]
/-- the digit of a number below 10 -/
abbrev dgt (n : Nat) : UInt8 := UInt8.ofNat (48 + n)
theorem dgt_nat {n : Nat} (h : n < 10) : (dgt n).toNat = 48 + n := by simp [dgt, UInt8.toNat_ofNat']; omega
/-- digits, of numbers above 0; of 0 none -/
def decP : Nat → Nat → List UInt8
  | 0, _ => []
  | k + 1, n => if n = 0 then [] else decP k (n / 10) ++ [dgt (n % 10)]
theorem decF_decP : ∀ (k n : Nat), n < 10 ^ (k + 1) → decF (k + 1) n = decP k (n / 10) ++ [dgt (n % 10)]
  | 0, n, h => by
    have h' : n < 10 := by simpa using h
    have hb : Nat.blt n 10 = true := by rw [Nat.blt_eq]; exact h'
    unfold decF decP
    simp only [hb, cond_true, List.nil_append]
    rw [show n % 10 = n by omega]
  | k + 1, n, h => by
    unfold decF decP
    by_cases h' : n < 10
    · have hb : Nat.blt n 10 = true := by rw [Nat.blt_eq]; exact h'
      simp only [hb, cond_true]
      rw [if_pos (by omega), show n % 10 = n by omega]; rfl
    · have hb : Nat.blt n 10 = false := by
        cases hb : Nat.blt n 10
        · rfl
        · rw [Nat.blt_eq] at hb; omega
      simp only [hb, cond_false]
      rw [if_neg (by omega), decF_decP k (n / 10) (by have : 10 ^ (k + 1 + 1) = 10 ^ (k + 1) * 10 := Nat.pow_succ ..; omega)]
theorem decP_len : ∀ (k n : Nat), (decP k n).length ≤ k
  | 0, _ => by simp [decP]
  | k + 1, n => by
    unfold decP
    split
    · simp
    · have := decP_len k (n / 10); simp; omega
theorem decP_dig : ∀ (k n : Nat) (c : UInt8), c ∈ decP k n → 48 ≤ c.toNat ∧ c.toNat ≤ 57
  | 0, _, c, h => by simp [decP] at h
  | k + 1, n, c, h => by
    unfold decP at h
    split at h
    · simp at h
    · rcases List.mem_append.1 h with h | h
      · exact decP_dig k _ c h
      · rw [List.mem_singleton.1 h, dgt_nat (by omega)]; omega
/-- digits are parsed, one by one -/
theorem parse_decP (M : Nat) : ∀ (k n : Nat) (t : List UInt8), n < 10 ^ k → n < 18446744073709551616 → n ≤ M → Lib.parseUintM M 0 (decP k n ++ t) = Lib.parseUintM M n t
  | 0, n, t, h, _, _ => by
    have : n = 0 := by simpa using h
    subst this; rfl
  | k + 1, n, t, h, h2, h3 => by
    unfold decP
    split
    · rename_i h0; subst h0; rfl
    · rw [List.append_assoc, parse_decP M k (n / 10) _ (by have : 10 ^ (k + 1) = 10 ^ k * 10 := Nat.pow_succ ..; omega) (by omega) (by omega)]
      have hd := dgt_nat (n := n % 10) (by omega)
      conv => lhs; unfold Lib.parseUintM
      simp only [List.singleton_append, hd]
      rw [if_pos (by omega), if_neg (by omega), if_neg (by omega)]
      congr 1
      omega
theorem parse_dig {M acc n : Nat} {t : List UInt8} (h : n < 10) (h1 : acc * 10 + n ≤ M) (h2 : acc * 10 < 18446744073709551610) : Lib.parseUintM M acc (dgt n :: t) = Lib.parseUintM M (acc * 10 + n) t := by
  have hd := dgt_nat h
  conv => lhs; unfold Lib.parseUintM
  simp only [hd]
  rw [if_pos (by omega), if_neg (by omega), if_neg (by omega)]
  congr 1
  omega
theorem indexByte_skip (c : UInt8) : ∀ (l t : List UInt8), (∀ x, x ∈ l → x ≠ c) → Lib.indexByte (l ++ c :: t) c = l.length
  | [], t, _ => by simp [Lib.indexByte]
  | x :: l, t, h => by
    have hx : (x == c) = false := by simpa using h x (List.mem_cons_self ..)
    have ih := indexByte_skip c l t fun y hy => h y (List.mem_cons_of_mem _ hy)
    have hn : (Lib.indexByte (l ++ c :: t) c == -1) = false := by rw [ih]; simp only [beq_eq_false_iff_ne]; omega
    rw [List.cons_append, Lib.indexByte, hx]
    rw [if_neg (by simp), if_neg (by simp [hn]), ih]
    simp
theorem indexByte_lt (c : UInt8) : ∀ (l : List UInt8), Lib.indexByte l c < l.length
  | [] => by simp [Lib.indexByte]
  | x :: l => by
    have ih := indexByte_lt c l
    rw [Lib.indexByte]
    split
    · simp
    · split
      · simp; omega
      · simp; omega
end Go.Fw
end
section
/- The program of this seat, the types of its data, and its functions without a body. By this session. -/
set_option linter.unusedVariables false
set_option linter.unusedSimpArgs false
namespace Go.Proofs.YtbjajidphaeogaaDoor
open Go Go.Fw
noncomputable abbrev P := Tryd.prog
abbrev G0 : Nat → Option (List D) := fun g => bif g == 0 then some [.i .u64 1, .i .u64 10, .i .u64 100, .i .u64 1000, .i .u64 10000, .i .u64 100000, .i .u64 1000000, .i .u64 10000000, .i .u64 100000000, .i .u64 1000000000, .i .u64 10000000000, .i .u64 100000000000, .i .u64 1000000000000, .i .u64 10000000000000, .i .u64 100000000000000, .i .u64 1000000000000000, .i .u64 10000000000000000, .i .u64 100000000000000000, .i .u64 1000000000000000000, .i .u64 10000000000000000000] else none
abbrev G1 : Nat → Option (List D) := fun g => bif g == 0 then some [.i .u64 1, .i .u64 10, .i .u64 100, .i .u64 1000, .i .u64 10000, .i .u64 100000, .i .u64 1000000, .i .u64 10000000, .i .u64 100000000, .i .u64 1000000000, .i .u64 10000000000, .i .u64 100000000000, .i .u64 1000000000000, .i .u64 10000000000000, .i .u64 100000000000000, .i .u64 1000000000000000, .i .u64 10000000000000000, .i .u64 100000000000000000, .i .u64 1000000000000000000, .i .u64 10000000000000000000] else bif g == 2 then some [.er true] else bif g == 3 then some [.er true] else none
abbrev G2 : Nat → Option (List D) := fun g => bif g == 0 then some [.i .u64 1, .i .u64 10, .i .u64 100, .i .u64 1000, .i .u64 10000, .i .u64 100000, .i .u64 1000000, .i .u64 10000000, .i .u64 100000000, .i .u64 1000000000, .i .u64 10000000000, .i .u64 100000000000, .i .u64 1000000000000, .i .u64 10000000000000, .i .u64 100000000000000, .i .u64 1000000000000000, .i .u64 10000000000000000, .i .u64 100000000000000000, .i .u64 1000000000000000000, .i .u64 10000000000000000000] else bif g == 2 then some [.er true] else bif g == 3 then some [.er true] else bif g == 7 then some [.i .u8 128, .i .u8 191, .i .u8 160, .i .u8 191, .i .u8 128, .i .u8 159, .i .u8 144, .i .u8 191, .i .u8 128, .i .u8 143, .i .u8 0, .i .u8 0, .i .u8 0, .i .u8 0, .i .u8 0, .i .u8 0, .i .u8 0, .i .u8 0, .i .u8 0, .i .u8 0, .i .u8 0, .i .u8 0, .i .u8 0, .i .u8 0, .i .u8 0, .i .u8 0, .i .u8 0, .i .u8 0, .i .u8 0, .i .u8 0, .i .u8 0, .i .u8 0] else none
theorem g01 : ∀ g cs, G0 g = some cs → G1 g = some cs := by
  intro g cs h
  unfold G0 at h
  unfold G1
  cases h0 : (g == 0) with
  | true => rw [h0] at h; exact h
  | false =>
  rw [h0] at h
  simp only [cond_false] at h ⊢
  cases h
theorem g02 : ∀ g cs, G0 g = some cs → G2 g = some cs := by
  intro g cs h
  unfold G0 at h
  unfold G2
  cases h0 : (g == 0) with
  | true => rw [h0] at h; exact h
  | false =>
  rw [h0] at h
  simp only [cond_false] at h ⊢
  cases h
theorem g12 : ∀ g cs, G1 g = some cs → G2 g = some cs := by
  intro g cs h
  unfold G1 at h
  unfold G2
  cases h0 : (g == 0) with
  | true => rw [h0] at h; exact h
  | false =>
  rw [h0] at h
  simp only [cond_false] at h ⊢
  cases h2 : (g == 2) with
  | true => rw [h2] at h; exact h
  | false =>
  rw [h2] at h
  simp only [cond_false] at h ⊢
  cases h3 : (g == 3) with
  | true => rw [h3] at h; exact h
  | false =>
  rw [h3] at h
  simp only [cond_false] at h ⊢
  cases h
abbrev T_api_Account : Ty := (.g (.p (.i .i64) .s))
abbrev T_utf8_acceptRange : Ty := (.g (.p (.i .u8) (.i .u8)))
abbrev T_api_Line : Ty := (.g (.p T_api_Account (.i .i64)))
abbrev T_bursarlaw01_Back : Ty := (.g (.p (.i .i64) (.p (.i .i64) (.p (.l (.i .i64)) (.i .u16)))))
abbrev T_api_Entry : Ty := (.g (.p (.i .i64) (.p .s (.l T_api_Line))))
abbrev T_api_Hold : Ty := (.g (.p .s (.p .s (.p .s (.p (.i .i64) (.p (.i .i64) (.p (.i .i64) .b)))))))
abbrev T_bursarlaw12_Moved : Ty := (.g (.p (.i .i64) (.p .s (.p T_api_Account (.p T_api_Account (.i .i64))))))
def add64 : List D → Option (Bool × D) := fun ds => match ds with
  | [.i .u64 x, .i .u64 y, .i .u64 c] => some (decide (0 ≤ x) && decide (0 ≤ y) && decide (0 ≤ c) && decide (c ≤ 1), .tp [.i .u64 ((x + y + c) % 18446744073709551616), .i .u64 ((x + y + c) / 18446744073709551616)])
  | _ => none
theorem add64_ok : ExtOK P 53 (bare add64) := by
  intro ds r h w I vs hsz hv
  unfold bare add64 at h
  split at h
  · rename_i b q hq
    obtain ⟨hb, h⟩ := cond_some h
    injection h with h
    subst h
    split at hq
    · rename_i x y c
      injection hq with hq
      injection hq with hq1 hq2
      subst hq2
      rw [hb] at hq1
      simp only [Bool.and_eq_true, decide_eq_true_eq] at hq1
      have e0 := hv 0 _ rfl
      have e1 := hv 1 _ rfl
      have e2 := hv 2 _ rfl
      have hvs : vs = #[.int .u64 x, .int .u64 y, .int .u64 c] := by
        have : vs = #[vs.getD 0 undef, vs.getD 1 undef, vs.getD 2 undef] := by
          apply Array.ext
          · simpa using hsz
          · intro i hi hi'
            simp at hi'
            have : i = 0 ∨ i = 1 ∨ i = 2 := by omega
            rcases this with rfl | rfl | rfl <;> simp [Array.getD_eq_getD_getElem?, Array.getElem?_eq_getElem hi]
        rw [this]
        generalize vs.getD 0 undef = a0 at e0
        generalize vs.getD 1 undef = a1 at e1
        generalize vs.getD 2 undef = a2 at e2
        cases e0; cases e1; cases e2
        rfl
      refine ⟨_, by rw [hvs, run_callFunc_extern Tryd.func53 (by kernel_rfl) (by kernel_rfl) (by kernel_rfl) (e := add64Entry) (by kernel_rfl), run_add64 x y c (by omega) (by omega) (by omega) (by omega)]; rfl, ?_⟩
      refine .tp _ _ rfl fun j d hj => ?_
      match j, hj with
      | 0, hj => simp at hj; subst hj; exact .i _ _
      | 1, hj => simp at hj; subst hj; exact .i _ _
      | j + 2, hj => simp at hj
    · cases hq
  · cases h
def cntB : List D → Option (Bool × D) := fun ds => match ds with
  | [.s x, .i .u8 y] => some (true, .i .i64 (((Lib.countByte x.data.toList y.toNat.toUInt8 : Nat) : Int)))
  | _ => none
theorem cntB_ok : ExtOK P 153 (bare cntB) := by
  intro ds r h w I vs hsz hv
  unfold bare cntB at h
  split at h
  · rename_i b q hq
    obtain ⟨hb, h⟩ := cond_some h
    injection h with h
    subst h
    split at hq
    · rename_i x y
      injection hq with hq
      injection hq with hq1 hq2
      subst hq2
      have e0 := hv 0 _ rfl
      have e1 := hv 1 _ rfl
      have hvs : vs = #[vs.getD 0 undef, vs.getD 1 undef] := by
        apply Array.ext
        · simpa using hsz
        · intro i hi hi'
          simp at hi'
          have : i = 0 ∨ i = 1 := by omega
          rcases this with rfl | rfl <;> simp [Array.getD_eq_getD_getElem?, Array.getElem?_eq_getElem hi]
      generalize vs.getD 0 undef = a0 at e0 hvs
      generalize vs.getD 1 undef = a1 at e1 hvs
      cases e0; cases e1
      refine ⟨_, by rw [hvs, run_callFunc_extern Tryd.func153 (by kernel_rfl) (by kernel_rfl) (by kernel_rfl) (e := Extern.BytealgCount.count) (by kernel_rfl), Lib.run_countString]; rfl, ?_⟩
      exact .i _ _
    · cases hq
  · cases h
def idxB : List D → Option (Bool × D) := fun ds => match ds with
  | [.s x, .i .u8 y] => some (true, .i .i64 (Lib.indexByte x.data.toList y.toNat.toUInt8))
  | _ => none
theorem idxB_ok : ExtOK P 156 (bare idxB) := by
  intro ds r h w I vs hsz hv
  unfold bare idxB at h
  split at h
  · rename_i b q hq
    obtain ⟨hb, h⟩ := cond_some h
    injection h with h
    subst h
    split at hq
    · rename_i x y
      injection hq with hq
      injection hq with hq1 hq2
      subst hq2
      have e0 := hv 0 _ rfl
      have e1 := hv 1 _ rfl
      have hvs : vs = #[vs.getD 0 undef, vs.getD 1 undef] := by
        apply Array.ext
        · simpa using hsz
        · intro i hi hi'
          simp at hi'
          have : i = 0 ∨ i = 1 := by omega
          rcases this with rfl | rfl <;> simp [Array.getD_eq_getD_getElem?, Array.getElem?_eq_getElem hi]
      generalize vs.getD 0 undef = a0 at e0 hvs
      generalize vs.getD 1 undef = a1 at e1 hvs
      cases e0; cases e1
      refine ⟨_, by rw [hvs, run_callFunc_extern Tryd.func156 (by kernel_rfl) (by kernel_rfl) (by kernel_rfl) (e := Extern.BytealgIndexByte.indexByte) (by kernel_rfl), Lib.run_indexByteString]; rfl, ?_⟩
      exact .i _ _
    · cases hq
  · cases h
abbrev E0 : FuncId → Option (List D → Option (Bool × D)) := fun g => bif g == 53 then some add64 else bif g == 153 then some cntB else bif g == 156 then some idxB else none
theorem e0_ok : ∀ g f, E0 g = some f → ExtOK P g (bare f) := by
  intro g f h
  unfold E0 at h
  cases hg53 : (g == 53) with
  | true =>
    rw [hg53] at h
    injection h with h
    subst h
    have : g = 53 := by simpa using hg53
    subst this
    exact add64_ok
  | false =>
  rw [hg53] at h
  simp only [cond_false] at h
  cases hg153 : (g == 153) with
  | true =>
    rw [hg153] at h
    injection h with h
    subst h
    have : g = 153 := by simpa using hg153
    subst this
    exact cntB_ok
  | false =>
  rw [hg153] at h
  simp only [cond_false] at h
  cases hg156 : (g == 156) with
  | true =>
    rw [hg156] at h
    injection h with h
    subst h
    have : g = 156 := by simpa using hg156
    subst this
    exact idxB_ok
  | false =>
  rw [hg156] at h
  simp only [cond_false] at h
  cases h
end Go.Proofs.YtbjajidphaeogaaDoor
end
section
/- Contracts of the library at this program, in plain words. Written by a tool of the kit.
-/
namespace Go.Proofs
open Go.Shelf
def Tryd.lays283_ren : Go.Shelf.Ren := ⟨fun | 283 => 113 | n => n, fun | 3 => 3 | 9 => 9 | 4 => 4 | n => n, fun | n => n⟩
theorem Tryd.lays283 : Go.Proofs.Lays.n283 Tryd.prog Tryd.lays283_ren := {
  mixed := by kernel_rfl
  f283 := Tryd.func113.trans (congrArg some (by kernel_rfl))
  t3 := Tryd.underlying3
  a3 := Tryd.isAgg3
  z3 := Tryd.sizeOf3
  v3 := Tryd.zeroValue3
  t4 := Tryd.underlying4
  a4 := Tryd.isAgg4
  z4 := Tryd.sizeOf4
  v4 := Tryd.zeroValue4
  t9 := Tryd.underlying9
  a9 := Tryd.isAgg9
  z9 := Tryd.sizeOf9
  v9 := Tryd.zeroValue9 }
def Tryd.laysM284_ren : Go.Shelf.Ren := ⟨fun | 284 => 114 | 129 => 138 | 317 => 137 | 318 => 139 | n => n, fun | 53 => 89 | 3 => 3 | 212 => 177 | 0 => 0 | 4 => 4 | 46 => 92 | 5 => 5 | 9 => 9 | n => n, fun | 17 => 0 | n => n⟩
theorem Tryd.laysM284 : Go.Proofs.LaysM.n284 Tryd.prog Tryd.laysM284_ren := {
  mixed := by kernel_rfl
  f129 := Tryd.func138.trans (congrArg some (by kernel_rfl))
  f284 := Tryd.func114.trans (congrArg some (by kernel_rfl))
  f317 := Tryd.func137.trans (congrArg some (by kernel_rfl))
  f318 := Tryd.func139.trans (congrArg some (by kernel_rfl))
  t0 := Tryd.underlying0
  a0 := Tryd.isAgg0
  z0 := Tryd.sizeOf0
  v0 := Tryd.zeroValue0
  t3 := Tryd.underlying3
  a3 := Tryd.isAgg3
  z3 := Tryd.sizeOf3
  v3 := Tryd.zeroValue3
  t4 := Tryd.underlying4
  a4 := Tryd.isAgg4
  z4 := Tryd.sizeOf4
  v4 := Tryd.zeroValue4
  t5 := Tryd.underlying5
  a5 := Tryd.isAgg5
  z5 := Tryd.sizeOf5
  v5 := Tryd.zeroValue5
  t9 := Tryd.underlying9
  a9 := Tryd.isAgg9
  z9 := Tryd.sizeOf9
  v9 := Tryd.zeroValue9
  t46 := Tryd.underlying92
  a46 := Tryd.isAgg92
  z46 := Tryd.sizeOf92
  v46 := Tryd.zeroValue92
  t53 := Tryd.underlying89
  a53 := Tryd.isAgg89
  z53 := Tryd.sizeOf89
  v53 := Tryd.zeroValue89
  t212 := Tryd.underlying177
  a212 := Tryd.isAgg177
  z212 := Tryd.sizeOf177
  v212 := Tryd.zeroValue177
  g17 := by kernel_rfl
  i0 := by kernel_rfl
  i3 := by kernel_rfl
  i4 := by kernel_rfl
  i5 := by kernel_rfl
  i9 := by kernel_rfl
  i46 := by kernel_rfl
  i53 := by kernel_rfl
  i212 := by kernel_rfl
  m17 := by kernel_rfl }
def Tryd.lays285_ren : Go.Shelf.Ren := ⟨fun | 285 => 115 | n => n, fun | 37 => 117 | 53 => 89 | 3 => 3 | 4 => 4 | 51 => 178 | 9 => 9 | 5 => 5 | 0 => 0 | n => n, fun | n => n⟩
theorem Tryd.lays285 : Go.Proofs.Lays.n285 Tryd.prog Tryd.lays285_ren := {
  mixed := by kernel_rfl
  f285 := Tryd.func115.trans (congrArg some (by kernel_rfl))
  t0 := Tryd.underlying0
  a0 := Tryd.isAgg0
  z0 := Tryd.sizeOf0
  v0 := Tryd.zeroValue0
  t3 := Tryd.underlying3
  a3 := Tryd.isAgg3
  z3 := Tryd.sizeOf3
  v3 := Tryd.zeroValue3
  t4 := Tryd.underlying4
  a4 := Tryd.isAgg4
  z4 := Tryd.sizeOf4
  v4 := Tryd.zeroValue4
  t5 := Tryd.underlying5
  a5 := Tryd.isAgg5
  z5 := Tryd.sizeOf5
  v5 := Tryd.zeroValue5
  t9 := Tryd.underlying9
  a9 := Tryd.isAgg9
  z9 := Tryd.sizeOf9
  v9 := Tryd.zeroValue9
  t37 := Tryd.underlying117
  a37 := Tryd.isAgg117
  z37 := Tryd.sizeOf117
  v37 := Tryd.zeroValue117
  t51 := Tryd.underlying178
  a51 := Tryd.isAgg178
  z51 := Tryd.sizeOf178
  v51 := Tryd.zeroValue178
  t53 := Tryd.underlying89
  a53 := Tryd.isAgg89
  z53 := Tryd.sizeOf89
  v53 := Tryd.zeroValue89 }
end Go.Proofs
end
section
/- strconv.FormatUint at base 10: the decimal digits, for every number. By this session, after the library's contract of FormatInt. -/
set_option linter.unusedVariables false
namespace Go.Proofs
open Go.Shelf Go.RowKit Go.Sort Go.Lib
theorem Tryd.holds_zero0 (w : World) (T : TypeId) (nd : Nat) (hs : nd ≤ 24) : Holds (fun (b : UInt8) => Value.int .u8 (b.toNat : Int)) (w.alloc (.cells zeros24 T)) w.heap.size 0 (Array.replicate nd (0 : UInt8)) := fun j hj => by
  have hj' : j < nd := by simpa using hj
  refine ⟨?_, World.frozen?_alloc_new _ _ _ _⟩
  rw [World.cell?_alloc_new, zeros24_at _ (by omega), getElem!_pos _ j hj]
  simp
theorem Tryd.fin0 (w : World) (o : Obj) (dk : Array UInt8) (k : Nat) : ∃ os, (putRow (fun (b : UInt8) => Value.int .u8 (b.toNat : Int)) (w.alloc o) w.heap.size 0 dk).drewN k = grow (w.drewN k) os := by
  rw [alloc_eq_grow]
  obtain ⟨os', _, e⟩ := putRow_grow_new (fun (b : UInt8) => Value.int .u8 (b.toNat : Int)) w #[o] w.heap.size 0 dk (Nat.le_refl _)
  exact ⟨os', by rw [e]; rfl⟩
set_option maxHeartbeats 6400000 in
set_option maxRecDepth 100000 in
theorem Tryd.fmtUint_in (u : Nat) (hu64 : u < 18446744073709551616) (w : World) (htab : Lib.TabIs Tryd.prog w "internal/strconv.uint64pow10" .u64 Lib.pow10Tab) :
    Calls Tryd.prog 97 #[.int .u64 u, .int .i64 10] w fun e w' => e = .returned (.string ⟨(Lib.decDigits u).toArray⟩) ∧ ∃ k os, w' = grow (w.drewN k) os := by
  by_cases hs : u < 100
  · go_enter Tryd.func97, Tryd.ntmps97
    go_wp2_with (go_at_call 113; refine (Any.internal_strconv_small Tryd.lays283 u hs _).mono ?_; rintro e w' ⟨rfl, rfl⟩)
    go_ret
    exact ⟨rfl, 0, #[], by simp [World.drewN_zero]⟩
  · have hu1 : 1 ≤ u := by omega
    have hnd20 : Lib.nDigits u ≤ 20 := by have := Lib.numDigits_eq u hu1 hu64; split at this <;> omega
    have hb3 : Lib.nDigits u ≤ 24 := by omega
    have hal : Tryd.prog.arrayLen 151 = 24 := by kernel_rfl
    have hsl1 : ∀ W, (Instr.sliceAt 151 (.pointer (some ⟨w.heap.size, 0, none⟩)) none (some (.int .i64 (Lib.nDigits u : Int))) none).run Tryd.prog W = .ok (.slice (some ⟨w.heap.size, 0, none⟩) (Lib.nDigits u) 24) W := fun W => by
      rw [run_sliceAt_array_h W 151 ⟨w.heap.size, 0, none⟩ (by simp [Program.arrayLen, Program.elem, Tryd.underlying151]) .i64 (Lib.nDigits u : Int) (by omega) (by rw [hal]; omega)]
      go_simp
    have hH0 := Tryd.holds_zero0 w 151 (Lib.nDigits u) (by omega)
    have hfmt := Any.internal_strconv_formatBase10 Tryd.lays285 w.heap.size 0 24 u (Array.replicate (Lib.nDigits u) 0) (w.alloc (.cells Lib.zeros24 151)) hH0 (by rw [Array.size_replicate]; exact Lib.lt_pow_nDigits u) hu64 (by rw [Array.size_replicate]; omega)
    rw [Array.size_replicate] at hfmt
    have HH0 := Lib.hid hH0
    clear hH0 hal
    go_enter Tryd.func97, Tryd.ntmps97
    go_wp2_with (first
      | (go_at_call 114; refine (Any.internal_strconv_numDigits Tryd.laysM284 u hu1 hu64 _ (Lib.tabIs_alloc htab _)).mono ?_; rintro e w' ⟨rfl, rfl⟩))
    go_at_call 115
    refine hfmt.mono ?_
    rintro e w' ⟨rfl, k, v', dk, rfl, hF⟩
    have hcv : (convert 117 9 (.slice (some ⟨w.heap.size, 0, none⟩) (Lib.nDigits u) 24)).run Tryd.prog ((putRow (fun (b : UInt8) => Value.int .u8 (b.toNat : Int)) (w.alloc (.cells Lib.zeros24 151)) w.heap.size 0 dk).drewN k) = .ok (.string ⟨(Lib.decDigits u).toArray⟩) ((putRow (fun (b : UInt8) => Value.int .u8 (b.toNat : Int)) (w.alloc (.cells Lib.zeros24 151)) w.heap.size 0 dk).drewN k) := by
      have h := run_convert_bytes_back (P := Tryd.prog) ((putRow (fun (b : UInt8) => Value.int .u8 (b.toNat : Int)) (w.alloc (.cells Lib.zeros24 151)) w.heap.size 0 dk).drewN k) 117 9 5 ⟨w.heap.size, 0, none⟩ 24 (Lib.decDigits u) Tryd.underlying117 Tryd.underlying5 Tryd.underlying9 (fun j hj => by
        rw [Lib.row_is_numeral hF j hj, Lib.add_plain, World.cell?_drewN]
        exact cell?_putRow (fun (b : UInt8) => Value.int .u8 (b.toNat : Int)) _ w.heap.size 0 _ dk HH0.out (by rw [hF.size, Array.size_replicate]) j (by rw [hF.size]; rw [Lib.decDigits_length] at hj; exact hj))
      rw [Lib.decDigits_length] at h
      exact h
    go_wp2
    go_ret
    obtain ⟨os, eo⟩ := Tryd.fin0 w (.cells Lib.zeros24 151) dk k
    exact ⟨rfl, k, os, eo⟩
set_option maxRecDepth 100000 in
theorem Tryd.fmtUint (u : Nat) (hu64 : u < 18446744073709551616) (w : World) (htab : Lib.TabIs Tryd.prog w "internal/strconv.uint64pow10" .u64 Lib.pow10Tab) :
    Calls Tryd.prog 69 #[.int .u64 u, .int .i64 10] w fun e w' => e = .returned (.string ⟨(Lib.decDigits u).toArray⟩) ∧ ∃ k os, w' = grow (w.drewN k) os := by
  go_enter Tryd.func69, Tryd.ntmps69
  go_wp2_with (go_at_call 97; refine (Tryd.fmtUint_in u hu64 _ htab).mono ?_; rintro e w' ⟨rfl, k, os, rfl⟩)
  go_ret
  exact ⟨rfl, k, os, rfl⟩
end Go.Proofs
end
section
/- Functions of the library, as rows, by its contracts. By this session. -/
set_option linter.unusedVariables false
namespace Go.Proofs.YtbjajidphaeogaaDoor
open Go Go.Fw Go.RowKit
theorem grow_below (w : World) (k : Nat) (os : Array Obj) : Below w.heap.size w (Sort.grow (w.drewN k) os) := by
  have h : Below w.heap.size w (w.drewN k) := by
    induction k with
    | zero => rw [World.drewN_zero]; exact .refl _ _
    | succ k ih => exact ⟨rfl, rfl, rfl, Nat.le_refl _, fun _ _ => rfl⟩
  exact h.trans ⟨rfl, rfl, rfl, by simp [Sort.grow], fun i hi => by
    show ((w.drewN k).heap ++ os)[i]? = _
    rw [Array.getElem?_append, if_pos (Nat.lt_of_lt_of_le hi h.size)]⟩
theorem ent_of {g : FuncId} {fn : Func} (h : P.funcs[g]? = some fn) (hn : (fn.name == "runtime.NumGoroutine") = false) (hb : fn.body.isNone = false) : Fw.Enters P g := ⟨fn, h, hn, hb⟩
/-! FormatUint -/
abbrev strconv_FormatUint.As : Shs := .cons (.x (.i .u64)) (.cons (.x (.i .i64)) .nil)
abbrev strconv_FormatUint.m : Back := [(false, .s)]
abbrev strconv_FormatUint.f (a : (Int × Int)) : Option ByteArray := fmtU a
noncomputable abbrev strconv_FormatUint.row : Row := fnRow 69 strconv_FormatUint.As strconv_FormatUint.m strconv_FormatUint.f
theorem strconv_FormatUint.row_ok : RowOK P G0 strconv_FormatUint.row := by
  have key : ∀ (ds : List D) (a : Int × Int) (q : ByteArray), decArgs strconv_FormatUint.As ds = some a → strconv_FormatUint.f a = some q → Fw.Enters P 69 ∧ PCall P G0 69 ds (.s q) := by
    intro ds a q ha hq
    refine ⟨ent_of Tryd.func69 (by kernel_rfl) (by kernel_rfl), ?_⟩
    have hds := (decArgs_argD ha).symm
    refine PCall.coe (ds' := argD strconv_FormatUint.As a) ?_ (by rw [← hds]; exact coeA_len) fun w I f hf => by rw [← hds]; exact coeA_rel hf
    refine pcall_below fun w I K vs hg hsz hr => ?_
    have h0 := hr 0 (.i .u64 a.1) rfl
    have h1 := hr 1 (.i .i64 a.2) rfl
    have hvs : vs = #[.int .u64 a.1, .int .i64 a.2] := by
      have hs : vs.size = 2 := hsz
      rw [Array.getD_eq_getD_getElem?, Array.getElem?_eq_getElem (by omega)] at h0 h1
      simp only [Option.getD_some] at h0 h1
      refine Array.ext (by simpa using hs) fun i hi hi' => ?_
      match i, hi with
      | 0, _ => cases h : vs[0] <;> rw [h] at h0 <;> cases h0; rfl
      | 1, _ => cases h : vs[1] <;> rw [h] at h1 <;> cases h1; rfl
      | i + 2, hi => omega
    subst hvs
    unfold strconv_FormatUint.f fmtU at hq
    obtain ⟨hb, hq⟩ := cond_some hq
    simp only [Bool.and_eq_true, decide_eq_true_eq] at hb
    obtain ⟨⟨h2, h3⟩, h4⟩ := hb
    injection hq with hq
    subst hq
    obtain ⟨u, hu⟩ : ∃ u : Nat, a.1 = u := ⟨a.1.toNat, by omega⟩
    rw [hu, h4]
    refine (Tryd.fmtUint u (by omega) w (tab_of_glob hg (g := 0) (by kernel_rfl) rfl)).mono ?_
    rintro e w' ⟨rfl, k, os, rfl⟩
    refine ⟨_, rfl, grow_below w k os, ?_⟩
    rw [decF_is 19 _ (by omega)]
    exact RelD.s _
  exact fun ds a q => key ds a q
end Go.Proofs.YtbjajidphaeogaaDoor
end
section
/- Contracts of the library at this program, in plain words. Written by a tool of the kit.
-/
namespace Go.Proofs
open Go.Shelf
def Tryd.laysPu14_ren : Go.Shelf.Ren := ⟨fun | 14 => 72 | 16 => 100 | 17 => 101 | 19 => 119 | 20 => 120 | 21 => 121 | 22 => 122 | 23 => 123 | 24 => 124 | 25 => 146 | 27 => 61 | 26 => 147 | 28 => 90 | 29 => 110 | 30 => 113 | 31 => 114 | 32 => 115 | 33 => 116 | 35 => 138 | 34 => 137 | 36 => 139 | 37 => 140 | 38 => 141 | 39 => 154 | 40 => 155 | n => n, fun | 9 => 9 | 3 => 3 | 22 => 89 | 24 => 114 | 25 => 115 | 4 => 4 | 34 => 158 | 5 => 5 | 36 => 92 | 37 => 117 | 0 => 0 | 39 => 160 | 21 => 21 | 44 => 183 | 47 => 187 | 50 => 194 | 48 => 192 | 2 => 2 | 52 => 151 | 55 => 154 | 59 => 177 | 60 => 178 | 20 => 20 | 61 => 179 | 65 => 198 | 66 => 199 | 67 => 172 | n => n, fun | 0 => 2 | 1 => 3 | 2 => 0 | 3 => 4 | 4 => 5 | n => n⟩
theorem Tryd.laysPu14 : Go.Proofs.LaysPu.n14 Tryd.prog Tryd.laysPu14_ren := {
  mixed := by kernel_rfl
  f14 := Tryd.func72.trans (congrArg some (by kernel_rfl))
  f16 := Tryd.func100.trans (congrArg some (by kernel_rfl))
  f17 := Tryd.func101.trans (congrArg some (by kernel_rfl))
  f19 := Tryd.func119.trans (congrArg some (by kernel_rfl))
  f20 := Tryd.func120.trans (congrArg some (by kernel_rfl))
  f21 := Tryd.func121.trans (congrArg some (by kernel_rfl))
  f22 := Tryd.func122.trans (congrArg some (by kernel_rfl))
  f23 := Tryd.func123.trans (congrArg some (by kernel_rfl))
  f24 := Tryd.func124.trans (congrArg some (by kernel_rfl))
  f25 := Tryd.func146.trans (congrArg some (by kernel_rfl))
  f26 := Tryd.func147.trans (congrArg some (by kernel_rfl))
  f27 := Tryd.func61.trans (congrArg some (by kernel_rfl))
  f28 := Tryd.func90.trans (congrArg some (by kernel_rfl))
  f29 := Tryd.func110.trans (congrArg some (by kernel_rfl))
  f30 := Tryd.func113.trans (congrArg some (by kernel_rfl))
  f31 := Tryd.func114.trans (congrArg some (by kernel_rfl))
  f32 := Tryd.func115.trans (congrArg some (by kernel_rfl))
  f33 := Tryd.func116.trans (congrArg some (by kernel_rfl))
  f34 := Tryd.func137.trans (congrArg some (by kernel_rfl))
  f35 := Tryd.func138.trans (congrArg some (by kernel_rfl))
  f36 := Tryd.func139.trans (congrArg some (by kernel_rfl))
  f37 := Tryd.func140.trans (congrArg some (by kernel_rfl))
  f38 := Tryd.func141.trans (congrArg some (by kernel_rfl))
  f39 := Tryd.func154.trans (congrArg some (by kernel_rfl))
  f40 := Tryd.func155.trans (congrArg some (by kernel_rfl))
  t0 := Tryd.underlying0
  a0 := Tryd.isAgg0
  z0 := Tryd.sizeOf0
  v0 := Tryd.zeroValue0
  i0 := by kernel_rfl
  t2 := Tryd.underlying2
  a2 := Tryd.isAgg2
  z2 := Tryd.sizeOf2
  v2 := Tryd.zeroValue2
  i2 := by kernel_rfl
  t3 := Tryd.underlying3
  a3 := Tryd.isAgg3
  z3 := Tryd.sizeOf3
  v3 := Tryd.zeroValue3
  i3 := by kernel_rfl
  t4 := Tryd.underlying4
  a4 := Tryd.isAgg4
  z4 := Tryd.sizeOf4
  v4 := Tryd.zeroValue4
  i4 := by kernel_rfl
  t5 := Tryd.underlying5
  a5 := Tryd.isAgg5
  z5 := Tryd.sizeOf5
  v5 := Tryd.zeroValue5
  i5 := by kernel_rfl
  t9 := Tryd.underlying9
  a9 := Tryd.isAgg9
  z9 := Tryd.sizeOf9
  v9 := Tryd.zeroValue9
  i9 := by kernel_rfl
  t20 := Tryd.underlying20
  a20 := Tryd.isAgg20
  z20 := Tryd.sizeOf20
  v20 := Tryd.zeroValue20
  i20 := by kernel_rfl
  t21 := Tryd.underlying21
  a21 := Tryd.isAgg21
  z21 := Tryd.sizeOf21
  v21 := Tryd.zeroValue21
  i21 := by kernel_rfl
  t22 := Tryd.underlying89
  a22 := Tryd.isAgg89
  z22 := Tryd.sizeOf89
  v22 := Tryd.zeroValue89
  i22 := by kernel_rfl
  t24 := Tryd.underlying114
  a24 := Tryd.isAgg114
  z24 := Tryd.sizeOf114
  v24 := Tryd.zeroValue114
  i24 := by kernel_rfl
  t25 := Tryd.underlying115
  a25 := Tryd.isAgg115
  z25 := Tryd.sizeOf115
  v25 := Tryd.zeroValue115
  i25 := by kernel_rfl
  t34 := Tryd.underlying158
  a34 := Tryd.isAgg158
  z34 := Tryd.sizeOf158
  v34 := Tryd.zeroValue158
  i34 := by kernel_rfl
  c34 := by kernel_rfl
  t36 := Tryd.underlying92
  a36 := Tryd.isAgg92
  z36 := Tryd.sizeOf92
  v36 := Tryd.zeroValue92
  i36 := by kernel_rfl
  t37 := Tryd.underlying117
  a37 := Tryd.isAgg117
  z37 := Tryd.sizeOf117
  v37 := Tryd.zeroValue117
  i37 := by kernel_rfl
  t39 := Tryd.underlying160
  a39 := Tryd.isAgg160
  z39 := Tryd.sizeOf160
  v39 := Tryd.zeroValue160
  i39 := by kernel_rfl
  t44 := Tryd.underlying183
  a44 := Tryd.isAgg183
  z44 := Tryd.sizeOf183
  v44 := Tryd.zeroValue183
  i44 := by kernel_rfl
  t47 := Tryd.underlying187
  a47 := Tryd.isAgg187
  z47 := Tryd.sizeOf187
  v47 := Tryd.zeroValue187
  i47 := by kernel_rfl
  t48 := Tryd.underlying192
  a48 := Tryd.isAgg192
  z48 := Tryd.sizeOf192
  v48 := Tryd.zeroValue192
  i48 := by kernel_rfl
  t50 := Tryd.underlying194
  a50 := Tryd.isAgg194
  z50 := Tryd.sizeOf194
  v50 := Tryd.zeroValue194
  i50 := by kernel_rfl
  t52 := Tryd.underlying151
  a52 := Tryd.isAgg151
  z52 := Tryd.sizeOf151
  v52 := Tryd.zeroValue151
  i52 := by kernel_rfl
  t55 := Tryd.underlying154
  a55 := Tryd.isAgg154
  z55 := Tryd.sizeOf154
  v55 := Tryd.zeroValue154
  i55 := by kernel_rfl
  t59 := Tryd.underlying177
  a59 := Tryd.isAgg177
  z59 := Tryd.sizeOf177
  v59 := Tryd.zeroValue177
  i59 := by kernel_rfl
  t60 := Tryd.underlying178
  a60 := Tryd.isAgg178
  z60 := Tryd.sizeOf178
  v60 := Tryd.zeroValue178
  i60 := by kernel_rfl
  t61 := Tryd.underlying179
  a61 := Tryd.isAgg179
  z61 := Tryd.sizeOf179
  t65 := Tryd.underlying198
  a65 := Tryd.isAgg198
  z65 := Tryd.sizeOf198
  v65 := Tryd.zeroValue198
  i65 := by kernel_rfl
  t66 := Tryd.underlying199
  a66 := Tryd.isAgg199
  z66 := Tryd.sizeOf199
  v66 := Tryd.zeroValue199
  i66 := by kernel_rfl
  t67 := Tryd.underlying172
  a67 := Tryd.isAgg172
  z67 := Tryd.sizeOf172
  v67 := Tryd.zeroValue172
  i67 := by kernel_rfl
  g0 := by kernel_rfl
  m0 := by kernel_rfl
  g1 := by kernel_rfl
  m1 := by kernel_rfl
  g2 := by kernel_rfl
  m2 := by kernel_rfl
  g3 := by kernel_rfl
  m3 := by kernel_rfl
  g4 := by kernel_rfl
  m4 := by kernel_rfl }
end Go.Proofs
end
section
/- strconv.ParseUint, as a row, by the library's contracts. By this session. -/
set_option linter.unusedVariables false
namespace Go.Proofs.YtbjajidphaeogaaDoor
open Go Go.Fw Go.RowKit Go.Shelf
def parseU (l : List UInt8) : Int × Bool := match Lib.parseUintB 64 l with
  | .ok u => ((u : Int), false)
  | .«syntax» => (0, true)
  | .range => (18446744073709551615, true)
abbrev strconv_ParseUint.As : Shs := .cons (.x .s) (.cons (.x (.i .i64)) (.cons (.x (.i .i64)) .nil))
abbrev strconv_ParseUint.m : Back := [(false, .i .u64), (false, .e)]
abbrev strconv_ParseUint.f (a : (ByteArray × (Int × Int))) : Option (Int × Bool) := bif decide (a.2.1 = 10) && decide (a.2.2 = 64) && decide (a.1.size ≤ 281474976710656) then some (parseU a.1.data.toList) else none
noncomputable abbrev strconv_ParseUint.row : Row := fnRow 72 strconv_ParseUint.As strconv_ParseUint.m strconv_ParseUint.f
theorem bytes_below (w : World) (t : TypeId) (s : ByteArray) : Below w.heap.size w (Lib.bytesWorld w t s) := by
  unfold Lib.bytesWorld World.freeze
  rw [if_neg (by decide)]
  refine ⟨rfl, rfl, rfl, by simp, fun k hk => ?_⟩
  show ((w.heap.push _).modify _ _)[k]? = _
  rw [Array.getElem?_modify, if_neg (by show ¬ w.heap.size = k; omega), Array.getElem?_push, if_neg (by omega)]
theorem strconv_ParseUint.row_ok : RowOK P G1 strconv_ParseUint.row := by
  have key : ∀ (ds : List D) (a : ByteArray × (Int × Int)) (q : Int × Bool), decArgs strconv_ParseUint.As ds = some a → strconv_ParseUint.f a = some q → Fw.Enters P 72 ∧ PCall P G1 72 ds (.tp [.i .u64 q.1, .er q.2]) := by
    intro ds a q ha hq
    refine ⟨ent_of Tryd.func72 (by kernel_rfl) (by kernel_rfl), ?_⟩
    have hds := (decArgs_argD ha).symm
    refine PCall.coe (ds' := argD strconv_ParseUint.As a) ?_ (by rw [← hds]; exact coeA_len) fun w I f hf => by rw [← hds]; exact coeA_rel hf
    refine pcall_below fun w I K vs hg hsz hr => ?_
    have h0 := hr 0 (.s a.1) rfl
    have h1 := hr 1 (.i .i64 a.2.1) rfl
    have h2 := hr 2 (.i .i64 a.2.2) rfl
    have hvs : vs = #[.string a.1, .int .i64 a.2.1, .int .i64 a.2.2] := by
      have hs : vs.size = 3 := hsz
      rw [Array.getD_eq_getD_getElem?, Array.getElem?_eq_getElem (by omega)] at h0 h1 h2
      simp only [Option.getD_some] at h0 h1 h2
      refine Array.ext (by simpa using hs) fun i hi hi' => ?_
      match i, hi with
      | 0, _ => cases h : vs[0] <;> rw [h] at h0 <;> cases h0; rfl
      | 1, _ => cases h : vs[1] <;> rw [h] at h1 <;> cases h1; rfl
      | 2, _ => cases h : vs[2] <;> rw [h] at h2 <;> cases h2; rfl
      | i + 3, hi => omega
    subst hvs
    unfold strconv_ParseUint.f at hq
    obtain ⟨hb, hq⟩ := cond_some hq
    simp only [Bool.and_eq_true, decide_eq_true_eq] at hb
    obtain ⟨⟨h3, h4⟩, h5⟩ := hb
    rw [h3, h4]
    injection hq with hq
    subst hq
    unfold parseU
    have tup : ∀ (w' : World) (n : Int) (b : Bool) (v : Value), RelD w' I (.er b) v → RelX w' I K (.tp [.i .u64 n, .er b]) (.tuple #[.int .u64 n, v]) := fun w' n b v hv => ⟨_, rfl, RelD.i .u64 n, ⟨hv, trivial, fun b h => by cases b <;> cases h⟩, fun b h => by cases h⟩
    cases hp : Lib.parseUintB 64 a.1.data.toList with
    | ok u =>
      refine (Any.strconv_ParseUint_10_at64_ok Tryd.laysPu14 a.1 (by omega) u hp w).mono ?_
      rintro e w' ⟨rfl, hw⟩
      refine ⟨_, rfl, ?_, tup w' u false _ .er0⟩
      rcases hw with rfl | rfl
      · exact .refl _ _
      · exact bytes_below _ _ _
    | «syntax» =>
      obtain ⟨tp, p, hv⟩ := err_of_glob (P := P) hg (g := 2) (name := "strconv.ErrSyntax") (by kernel_rfl) rfl
      refine (Any.strconv_ParseUint_10_at64_syntax_var Tryd.laysPu14 a.1 h5 hp tp p w hv).mono ?_
      rintro e w' ⟨N, rfl, _, _, hb⟩
      exact ⟨_, rfl, hb, tup w' 0 true _ (.er1 _ _)⟩
    | range =>
      obtain ⟨tp, p, hv⟩ := err_of_glob (P := P) hg (g := 3) (name := "strconv.ErrRange") (by kernel_rfl) rfl
      refine (Any.strconv_ParseUint_10_at64_range_var Tryd.laysPu14 a.1 h5 hp tp p w hv).mono ?_
      rintro e w' ⟨N, rfl, _, _, hb⟩
      exact ⟨_, rfl, hb, tup w' 18446744073709551615 true _ (.er1 _ _)⟩
  exact fun ds a q => key ds a q
end Go.Proofs.YtbjajidphaeogaaDoor
end
section
/- The Go function money.size, as a Lean function, and that it is this one. Written by a program of this session. -/
set_option linter.unusedVariables false
set_option maxRecDepth 100000
namespace Go.Proofs.YtbjajidphaeogaaDoor
open Go Go.Fw
abbrev money_size.As : Shs := (.cons (.x (.i .i64)) .nil)
abbrev money_size.m : Back := [(false, (.i .u64))]
noncomputable abbrev money_size.H : HK := hk P G0 E0 [] noLoops 4
theorem money_size.hok : HKOK P money_size.H := hk_ok e0_ok (rows_ok (ws := []) trivial) (fun g n => noLoops_ok g n) 4
noncomputable def money_size.f (a : Int) : Option Int := (bif (decide ((a < (0 : Int)))) then (some (IntKind.wrap .u64 ((0 : Int) - (IntKind.wrap .u64 a)))) else (some (IntKind.wrap .u64 a)))
theorem money_size.ok : ∀ a : Vals money_size.As.tys, fnK P money_size.H (lp []) 55 money_size.As money_size.m a some = money_size.f a := fun a => by kernel_rfl
noncomputable abbrev money_size.row : Row := fnRow 55 money_size.As money_size.m money_size.f
theorem money_size.row_ok : RowOK P G0 money_size.row := row_told money_size.hok (lp_of (l := []) trivial) (fun _ => rfl) money_size.ok
end Go.Proofs.YtbjajidphaeogaaDoor
end
section
/- The Go function money.Text, as a Lean function, and that it is this one. Written by a program of this session. -/
set_option linter.unusedVariables false
set_option maxRecDepth 100000
namespace Go.Proofs.YtbjajidphaeogaaDoor
open Go Go.Fw
abbrev money_Text.As : Shs := (.cons (.x (.i .i64)) .nil)
abbrev money_Text.m : Back := [(false, .s)]
noncomputable abbrev money_Text.H : HK := hk P G0 E0 [money_size.row, strconv_FormatUint.row] noLoops 4
theorem money_Text.hok : HKOK P money_Text.H := hk_ok e0_ok (rows_ok (ws := [money_size.row, strconv_FormatUint.row]) ⟨money_size.row_ok, ⟨strconv_FormatUint.row_ok, trivial⟩⟩) (fun g n => noLoops_ok g n) 4
noncomputable def money_Text.f (a : Int) : Option ByteArray := (bif (decide ((a < (0 : Int)))) then (((money_size.f a)).bind fun (x1 : Int) => (((strconv_FormatUint.f ((IntKind.wrap .u64 ((Int.tmod x1 (100 : Int)) + (100 : Int))), (10 : Int)))).bind fun (x2 : ByteArray) => (((strconv_FormatUint.f ((IntKind.wrap .u64 (Int.tdiv x1 (100 : Int))), (10 : Int)))).bind fun (x3 : ByteArray) => (bif (Nat.ble (1 + x3.size) 9223372036854775807) then (bif (Nat.ble (((bs [45]) ++ x3).size + 1) 9223372036854775807) then (bif (true && (decide (((1 : Int) ≤ (x2.size : Int))))) then (bif (Nat.ble ((((bs [45]) ++ x3) ++ (bs [46])).size + (ByteArray.extract x2 1 x2.size).size) 9223372036854775807) then (some ((((bs [45]) ++ x3) ++ (bs [46])) ++ (ByteArray.extract x2 1 x2.size))) else none) else none) else none) else none)))) else (((money_size.f a)).bind fun (x1 : Int) => (((strconv_FormatUint.f ((IntKind.wrap .u64 ((Int.tmod x1 (100 : Int)) + (100 : Int))), (10 : Int)))).bind fun (x2 : ByteArray) => (((strconv_FormatUint.f ((IntKind.wrap .u64 (Int.tdiv x1 (100 : Int))), (10 : Int)))).bind fun (x3 : ByteArray) => (bif (Nat.ble (0 + x3.size) 9223372036854775807) then (bif (Nat.ble (((bs []) ++ x3).size + 1) 9223372036854775807) then (bif (true && (decide (((1 : Int) ≤ (x2.size : Int))))) then (bif (Nat.ble ((((bs []) ++ x3) ++ (bs [46])).size + (ByteArray.extract x2 1 x2.size).size) 9223372036854775807) then (some ((((bs []) ++ x3) ++ (bs [46])) ++ (ByteArray.extract x2 1 x2.size))) else none) else none) else none) else none)))))
theorem money_Text.ok : ∀ a : Vals money_Text.As.tys, fnK P money_Text.H (lp []) 37 money_Text.As money_Text.m a some = money_Text.f a := fun a => by kernel_rfl
noncomputable abbrev money_Text.row : Row := fnRow 37 money_Text.As money_Text.m money_Text.f
theorem money_Text.row_ok : RowOK P G0 money_Text.row := row_told money_Text.hok (lp_of (l := []) trivial) (fun _ => rfl) money_Text.ok
end Go.Proofs.YtbjajidphaeogaaDoor
end
section
/- The Go function money.signed, as a Lean function, and that it is this one. Written by a program of this session. -/
set_option linter.unusedVariables false
set_option maxRecDepth 100000
namespace Go.Proofs.YtbjajidphaeogaaDoor
open Go Go.Fw
abbrev money_signed.As : Shs := (.cons (.x (.i .u64)) (.cons (.x .b) .nil))
abbrev money_signed.m : Back := [(false, (.i .i64)), (false, (.i .i64))]
noncomputable abbrev money_signed.H : HK := hk P G0 E0 [] noLoops 4
theorem money_signed.hok : HKOK P money_signed.H := hk_ok e0_ok (rows_ok (ws := []) trivial) (fun g n => noLoops_ok g n) 4
noncomputable def money_signed.f (a : (Int × Bool)) : Option (Int × Int) := (bif a.2 then (bif (decide ((a.1 ≤ (9223372036854775808 : Int)))) then (some ((IntKind.wrap .i64 (IntKind.wrap .u64 ((0 : Int) - a.1))), (0 : Int))) else (bif (!a.2) then (bif (decide ((a.1 ≤ (9223372036854775807 : Int)))) then (some ((IntKind.wrap .i64 a.1), (0 : Int))) else (some ((0 : Int), (2 : Int)))) else (some ((0 : Int), (2 : Int))))) else (bif (!a.2) then (bif (decide ((a.1 ≤ (9223372036854775807 : Int)))) then (some ((IntKind.wrap .i64 a.1), (0 : Int))) else (some ((0 : Int), (2 : Int)))) else (some ((0 : Int), (2 : Int)))))
theorem money_signed.ok : ∀ a : Vals money_signed.As.tys, fnK P money_signed.H (lp []) 56 money_signed.As money_signed.m a some = money_signed.f a := fun a => by kernel_rfl
noncomputable abbrev money_signed.row : Row := fnRow 56 money_signed.As money_signed.m money_signed.f
theorem money_signed.row_ok : RowOK P G0 money_signed.row := row_told money_signed.hok (lp_of (l := []) trivial) (fun _ => rfl) money_signed.ok
end Go.Proofs.YtbjajidphaeogaaDoor
end
section
/- The Go function money.Parse, as a Lean function, and that it is this one. Written by a program of this session. -/
set_option linter.unusedVariables false
set_option maxRecDepth 100000
namespace Go.Proofs.YtbjajidphaeogaaDoor
open Go Go.Fw
abbrev money_Parse.As : Shs := (.cons (.x .s) .nil)
abbrev money_Parse.m : Back := [(false, (.i .i64)), (false, (.i .i64))]
noncomputable abbrev money_Parse.H : HK := hk P G1 E0 [money_Text.row, money_signed.row, strconv_ParseUint.row] noLoops 4
theorem money_Parse.hok : HKOK P money_Parse.H := hk_ok e0_ok (rows_ok (ws := [money_Text.row, money_signed.row, strconv_ParseUint.row]) ⟨(money_Text.row_ok.more g01), ⟨(money_signed.row_ok.more g01), ⟨strconv_ParseUint.row_ok, trivial⟩⟩⟩) (fun g n => noLoops_ok g n) 4
noncomputable def money_Parse.f (a : ByteArray) : Option (Int × Int) := (bif (decide (((a.size : Int) ≥ (1 : Int)))) then (bif (true && (decide (((1 : Int) ≤ (a.size : Int))))) then (bif (!((ByteArray.toList (ByteArray.extract a 0 1)) == (ByteArray.toList (bs [45])))) then (bif ((ByteArray.toList (bs [46])) == (ByteArray.toList a)) then (bif (true && (decide (((1 : Int) ≤ (a.size : Int))))) then (bif (Nat.ble ((ByteArray.extract a 0 0).size + (ByteArray.extract a 1 a.size).size) 9223372036854775807) then (((strconv_ParseUint.f (((ByteArray.extract a 0 0) ++ (ByteArray.extract a 1 a.size)), ((10 : Int), (64 : Int))))).bind fun (x1 : (Int × Bool)) => (bif (!(!x1.2)) then (some ((0 : Int), (4 : Int))) else (((money_signed.f (x1.1, false))).bind fun (x2 : (Int × Int)) => (bif (x2.2 != (0 : Int)) then (some ((0 : Int), (4 : Int))) else (((money_Text.f x2.1)).bind fun (x3 : ByteArray) => (bif (!((ByteArray.toList x3) == (ByteArray.toList a))) then (some ((0 : Int), (4 : Int))) else (some (x2.1, (0 : Int))))))))) else none) else none) else (bif (decide (((Go.Lib.indexByte (Array.toList (ByteArray.data a)) (46 : UInt8)) ≥ (0 : Int)))) then (bif ((decide (((0 : Int) ≤ (Go.Lib.indexByte (Array.toList (ByteArray.data a)) (46 : UInt8))))) && (decide (((Go.Lib.indexByte (Array.toList (ByteArray.data a)) (46 : UInt8)) ≤ (a.size : Int))))) then (bif ((decide (((0 : Int) ≤ (IntKind.wrap .i64 ((Go.Lib.indexByte (Array.toList (ByteArray.data a)) (46 : UInt8)) + (1 : Int)))))) && (decide (((IntKind.wrap .i64 ((Go.Lib.indexByte (Array.toList (ByteArray.data a)) (46 : UInt8)) + (1 : Int))) ≤ (a.size : Int))))) then (bif (Nat.ble ((ByteArray.extract a 0 (Int.toNat (Go.Lib.indexByte (Array.toList (ByteArray.data a)) (46 : UInt8)))).size + (ByteArray.extract a (Int.toNat (IntKind.wrap .i64 ((Go.Lib.indexByte (Array.toList (ByteArray.data a)) (46 : UInt8)) + (1 : Int)))) a.size).size) 9223372036854775807) then (((strconv_ParseUint.f (((ByteArray.extract a 0 (Int.toNat (Go.Lib.indexByte (Array.toList (ByteArray.data a)) (46 : UInt8)))) ++ (ByteArray.extract a (Int.toNat (IntKind.wrap .i64 ((Go.Lib.indexByte (Array.toList (ByteArray.data a)) (46 : UInt8)) + (1 : Int)))) a.size)), ((10 : Int), (64 : Int))))).bind fun (x1 : (Int × Bool)) => (bif (!(!x1.2)) then (some ((0 : Int), (4 : Int))) else (((money_signed.f (x1.1, false))).bind fun (x2 : (Int × Int)) => (bif (x2.2 != (0 : Int)) then (some ((0 : Int), (4 : Int))) else (((money_Text.f x2.1)).bind fun (x3 : ByteArray) => (bif (!((ByteArray.toList x3) == (ByteArray.toList a))) then (some ((0 : Int), (4 : Int))) else (some (x2.1, (0 : Int))))))))) else none) else none) else none) else (bif (Nat.ble (a.size + 0) 9223372036854775807) then (((strconv_ParseUint.f ((a ++ (bs [])), ((10 : Int), (64 : Int))))).bind fun (x1 : (Int × Bool)) => (bif (!(!x1.2)) then (some ((0 : Int), (4 : Int))) else (((money_signed.f (x1.1, false))).bind fun (x2 : (Int × Int)) => (bif (x2.2 != (0 : Int)) then (some ((0 : Int), (4 : Int))) else (((money_Text.f x2.1)).bind fun (x3 : ByteArray) => (bif (!((ByteArray.toList x3) == (ByteArray.toList a))) then (some ((0 : Int), (4 : Int))) else (some (x2.1, (0 : Int))))))))) else none))) else (bif (true && (decide (((1 : Int) ≤ (a.size : Int))))) then (bif ((ByteArray.toList (bs [46])) == (ByteArray.toList (ByteArray.extract a 1 a.size))) then (bif (true && (decide (((1 : Int) ≤ ((ByteArray.extract a 1 a.size).size : Int))))) then (bif (Nat.ble ((ByteArray.extract (ByteArray.extract a 1 a.size) 0 0).size + (ByteArray.extract (ByteArray.extract a 1 a.size) 1 (ByteArray.extract a 1 a.size).size).size) 9223372036854775807) then (((strconv_ParseUint.f (((ByteArray.extract (ByteArray.extract a 1 a.size) 0 0) ++ (ByteArray.extract (ByteArray.extract a 1 a.size) 1 (ByteArray.extract a 1 a.size).size)), ((10 : Int), (64 : Int))))).bind fun (x1 : (Int × Bool)) => (bif (!(!x1.2)) then (some ((0 : Int), (4 : Int))) else (((money_signed.f (x1.1, true))).bind fun (x2 : (Int × Int)) => (bif (x2.2 != (0 : Int)) then (some ((0 : Int), (4 : Int))) else (((money_Text.f x2.1)).bind fun (x3 : ByteArray) => (bif (!((ByteArray.toList x3) == (ByteArray.toList a))) then (some ((0 : Int), (4 : Int))) else (some (x2.1, (0 : Int))))))))) else none) else none) else (bif (decide (((Go.Lib.indexByte (Array.toList (ByteArray.data (ByteArray.extract a 1 a.size))) (46 : UInt8)) ≥ (0 : Int)))) then (bif ((decide (((0 : Int) ≤ (Go.Lib.indexByte (Array.toList (ByteArray.data (ByteArray.extract a 1 a.size))) (46 : UInt8))))) && (decide (((Go.Lib.indexByte (Array.toList (ByteArray.data (ByteArray.extract a 1 a.size))) (46 : UInt8)) ≤ ((ByteArray.extract a 1 a.size).size : Int))))) then (bif ((decide (((0 : Int) ≤ (IntKind.wrap .i64 ((Go.Lib.indexByte (Array.toList (ByteArray.data (ByteArray.extract a 1 a.size))) (46 : UInt8)) + (1 : Int)))))) && (decide (((IntKind.wrap .i64 ((Go.Lib.indexByte (Array.toList (ByteArray.data (ByteArray.extract a 1 a.size))) (46 : UInt8)) + (1 : Int))) ≤ ((ByteArray.extract a 1 a.size).size : Int))))) then (bif (Nat.ble ((ByteArray.extract (ByteArray.extract a 1 a.size) 0 (Int.toNat (Go.Lib.indexByte (Array.toList (ByteArray.data (ByteArray.extract a 1 a.size))) (46 : UInt8)))).size + (ByteArray.extract (ByteArray.extract a 1 a.size) (Int.toNat (IntKind.wrap .i64 ((Go.Lib.indexByte (Array.toList (ByteArray.data (ByteArray.extract a 1 a.size))) (46 : UInt8)) + (1 : Int)))) (ByteArray.extract a 1 a.size).size).size) 9223372036854775807) then (((strconv_ParseUint.f (((ByteArray.extract (ByteArray.extract a 1 a.size) 0 (Int.toNat (Go.Lib.indexByte (Array.toList (ByteArray.data (ByteArray.extract a 1 a.size))) (46 : UInt8)))) ++ (ByteArray.extract (ByteArray.extract a 1 a.size) (Int.toNat (IntKind.wrap .i64 ((Go.Lib.indexByte (Array.toList (ByteArray.data (ByteArray.extract a 1 a.size))) (46 : UInt8)) + (1 : Int)))) (ByteArray.extract a 1 a.size).size)), ((10 : Int), (64 : Int))))).bind fun (x1 : (Int × Bool)) => (bif (!(!x1.2)) then (some ((0 : Int), (4 : Int))) else (((money_signed.f (x1.1, true))).bind fun (x2 : (Int × Int)) => (bif (x2.2 != (0 : Int)) then (some ((0 : Int), (4 : Int))) else (((money_Text.f x2.1)).bind fun (x3 : ByteArray) => (bif (!((ByteArray.toList x3) == (ByteArray.toList a))) then (some ((0 : Int), (4 : Int))) else (some (x2.1, (0 : Int))))))))) else none) else none) else none) else (bif (Nat.ble ((ByteArray.extract a 1 a.size).size + 0) 9223372036854775807) then (((strconv_ParseUint.f (((ByteArray.extract a 1 a.size) ++ (bs [])), ((10 : Int), (64 : Int))))).bind fun (x1 : (Int × Bool)) => (bif (!(!x1.2)) then (some ((0 : Int), (4 : Int))) else (((money_signed.f (x1.1, true))).bind fun (x2 : (Int × Int)) => (bif (x2.2 != (0 : Int)) then (some ((0 : Int), (4 : Int))) else (((money_Text.f x2.1)).bind fun (x3 : ByteArray) => (bif (!((ByteArray.toList x3) == (ByteArray.toList a))) then (some ((0 : Int), (4 : Int))) else (some (x2.1, (0 : Int))))))))) else none))) else none)) else none) else (bif ((ByteArray.toList (bs [46])) == (ByteArray.toList a)) then (bif (true && (decide (((1 : Int) ≤ (a.size : Int))))) then (bif (Nat.ble ((ByteArray.extract a 0 0).size + (ByteArray.extract a 1 a.size).size) 9223372036854775807) then (((strconv_ParseUint.f (((ByteArray.extract a 0 0) ++ (ByteArray.extract a 1 a.size)), ((10 : Int), (64 : Int))))).bind fun (x1 : (Int × Bool)) => (bif (!(!x1.2)) then (some ((0 : Int), (4 : Int))) else (((money_signed.f (x1.1, false))).bind fun (x2 : (Int × Int)) => (bif (x2.2 != (0 : Int)) then (some ((0 : Int), (4 : Int))) else (((money_Text.f x2.1)).bind fun (x3 : ByteArray) => (bif (!((ByteArray.toList x3) == (ByteArray.toList a))) then (some ((0 : Int), (4 : Int))) else (some (x2.1, (0 : Int))))))))) else none) else none) else (bif (decide (((Go.Lib.indexByte (Array.toList (ByteArray.data a)) (46 : UInt8)) ≥ (0 : Int)))) then (bif ((decide (((0 : Int) ≤ (Go.Lib.indexByte (Array.toList (ByteArray.data a)) (46 : UInt8))))) && (decide (((Go.Lib.indexByte (Array.toList (ByteArray.data a)) (46 : UInt8)) ≤ (a.size : Int))))) then (bif ((decide (((0 : Int) ≤ (IntKind.wrap .i64 ((Go.Lib.indexByte (Array.toList (ByteArray.data a)) (46 : UInt8)) + (1 : Int)))))) && (decide (((IntKind.wrap .i64 ((Go.Lib.indexByte (Array.toList (ByteArray.data a)) (46 : UInt8)) + (1 : Int))) ≤ (a.size : Int))))) then (bif (Nat.ble ((ByteArray.extract a 0 (Int.toNat (Go.Lib.indexByte (Array.toList (ByteArray.data a)) (46 : UInt8)))).size + (ByteArray.extract a (Int.toNat (IntKind.wrap .i64 ((Go.Lib.indexByte (Array.toList (ByteArray.data a)) (46 : UInt8)) + (1 : Int)))) a.size).size) 9223372036854775807) then (((strconv_ParseUint.f (((ByteArray.extract a 0 (Int.toNat (Go.Lib.indexByte (Array.toList (ByteArray.data a)) (46 : UInt8)))) ++ (ByteArray.extract a (Int.toNat (IntKind.wrap .i64 ((Go.Lib.indexByte (Array.toList (ByteArray.data a)) (46 : UInt8)) + (1 : Int)))) a.size)), ((10 : Int), (64 : Int))))).bind fun (x1 : (Int × Bool)) => (bif (!(!x1.2)) then (some ((0 : Int), (4 : Int))) else (((money_signed.f (x1.1, false))).bind fun (x2 : (Int × Int)) => (bif (x2.2 != (0 : Int)) then (some ((0 : Int), (4 : Int))) else (((money_Text.f x2.1)).bind fun (x3 : ByteArray) => (bif (!((ByteArray.toList x3) == (ByteArray.toList a))) then (some ((0 : Int), (4 : Int))) else (some (x2.1, (0 : Int))))))))) else none) else none) else none) else (bif (Nat.ble (a.size + 0) 9223372036854775807) then (((strconv_ParseUint.f ((a ++ (bs [])), ((10 : Int), (64 : Int))))).bind fun (x1 : (Int × Bool)) => (bif (!(!x1.2)) then (some ((0 : Int), (4 : Int))) else (((money_signed.f (x1.1, false))).bind fun (x2 : (Int × Int)) => (bif (x2.2 != (0 : Int)) then (some ((0 : Int), (4 : Int))) else (((money_Text.f x2.1)).bind fun (x3 : ByteArray) => (bif (!((ByteArray.toList x3) == (ByteArray.toList a))) then (some ((0 : Int), (4 : Int))) else (some (x2.1, (0 : Int))))))))) else none))))
theorem money_Parse.ok : ∀ a : Vals money_Parse.As.tys, fnK P money_Parse.H (lp []) 38 money_Parse.As money_Parse.m a some = money_Parse.f a := fun a => by kernel_rfl
noncomputable abbrev money_Parse.row : Row := fnRow 38 money_Parse.As money_Parse.m money_Parse.f
theorem money_Parse.row_ok : RowOK P G1 money_Parse.row := row_told money_Parse.hok (lp_of (l := []) trivial) (fun _ => rfl) money_Parse.ok
end Go.Proofs.YtbjajidphaeogaaDoor
end
section
/- The Go function bursarref01.Text, as a Lean function, and that it is this one. Written by a program of this session. -/
set_option linter.unusedVariables false
set_option maxRecDepth 100000
namespace Go.Proofs.YtbjajidphaeogaaDoor
open Go Go.Fw
abbrev bursarref01_Text.As : Shs := (.cons (.x (.i .i64)) .nil)
abbrev bursarref01_Text.m : Back := [(false, .s)]
noncomputable abbrev bursarref01_Text.H : HK := hk P G0 E0 [] noLoops 4
theorem bursarref01_Text.hok : HKOK P bursarref01_Text.H := hk_ok e0_ok (rows_ok (ws := []) trivial) (fun g n => noLoops_ok g n) 4
abbrev bursarref01_Text.sh9 : SSh := ⟨[(0, (.x (.i .i64))), (3, (.x .s)), (4, (.x .s)), (5, (.x (.i .i64)))], []⟩
abbrev bursarref01_Text.os9 : PEnds := [((.exit 0), ⟨[(3, (.x .s)), (4, (.x .s))], []⟩)]
noncomputable def bursarref01_Text.t9 (s : (Int × (ByteArray × (ByteArray × Int)))) : Option ((Int × (ByteArray × (ByteArray × Int))) ⊕ ((ByteArray × ByteArray))) := (bif (decide ((s.2.2.2 < (3 : Int)))) then (bif (s.2.2.2 == (2 : Int)) then (bif (Nat.ble (1 + s.2.2.1.size) 9223372036854775807) then (bif (Nat.ble ((ByteArray.mk (List.toArray (List.map (fun y4 => (UInt8.ofNat (Int.toNat y4))) ((IntKind.wrap .u8 (IntKind.wrap .i64 ((48 : Int) - (Int.tmod s.1 (10 : Int))))) :: [])))).size + ((bs [46]) ++ s.2.2.1).size) 9223372036854775807) then (some (.inl ((IntKind.wrap .i64 (Int.tdiv s.1 (10 : Int))), (s.2.1, (((ByteArray.mk (List.toArray (List.map (fun y4 => (UInt8.ofNat (Int.toNat y4))) ((IntKind.wrap .u8 (IntKind.wrap .i64 ((48 : Int) - (Int.tmod s.1 (10 : Int))))) :: [])))) ++ ((bs [46]) ++ s.2.2.1)), (IntKind.wrap .i64 (s.2.2.2 + (1 : Int)))))))) else none) else none) else (bif (Nat.ble ((ByteArray.mk (List.toArray (List.map (fun y4 => (UInt8.ofNat (Int.toNat y4))) ((IntKind.wrap .u8 (IntKind.wrap .i64 ((48 : Int) - (Int.tmod s.1 (10 : Int))))) :: [])))).size + s.2.2.1.size) 9223372036854775807) then (some (.inl ((IntKind.wrap .i64 (Int.tdiv s.1 (10 : Int))), (s.2.1, (((ByteArray.mk (List.toArray (List.map (fun y4 => (UInt8.ofNat (Int.toNat y4))) ((IntKind.wrap .u8 (IntKind.wrap .i64 ((48 : Int) - (Int.tmod s.1 (10 : Int))))) :: [])))) ++ s.2.2.1), (IntKind.wrap .i64 (s.2.2.2 + (1 : Int)))))))) else none)) else (bif (decide ((s.1 < (0 : Int)))) then (bif (s.2.2.2 == (2 : Int)) then (bif (Nat.ble (1 + s.2.2.1.size) 9223372036854775807) then (bif (Nat.ble ((ByteArray.mk (List.toArray (List.map (fun y4 => (UInt8.ofNat (Int.toNat y4))) ((IntKind.wrap .u8 (IntKind.wrap .i64 ((48 : Int) - (Int.tmod s.1 (10 : Int))))) :: [])))).size + ((bs [46]) ++ s.2.2.1).size) 9223372036854775807) then (some (.inl ((IntKind.wrap .i64 (Int.tdiv s.1 (10 : Int))), (s.2.1, (((ByteArray.mk (List.toArray (List.map (fun y4 => (UInt8.ofNat (Int.toNat y4))) ((IntKind.wrap .u8 (IntKind.wrap .i64 ((48 : Int) - (Int.tmod s.1 (10 : Int))))) :: [])))) ++ ((bs [46]) ++ s.2.2.1)), (IntKind.wrap .i64 (s.2.2.2 + (1 : Int)))))))) else none) else none) else (bif (Nat.ble ((ByteArray.mk (List.toArray (List.map (fun y4 => (UInt8.ofNat (Int.toNat y4))) ((IntKind.wrap .u8 (IntKind.wrap .i64 ((48 : Int) - (Int.tmod s.1 (10 : Int))))) :: [])))).size + s.2.2.1.size) 9223372036854775807) then (some (.inl ((IntKind.wrap .i64 (Int.tdiv s.1 (10 : Int))), (s.2.1, (((ByteArray.mk (List.toArray (List.map (fun y4 => (UInt8.ofNat (Int.toNat y4))) ((IntKind.wrap .u8 (IntKind.wrap .i64 ((48 : Int) - (Int.tmod s.1 (10 : Int))))) :: [])))) ++ s.2.2.1), (IntKind.wrap .i64 (s.2.2.2 + (1 : Int)))))))) else none)) else (some (.inr (s.2.1, s.2.2.1)))))
theorem bursarref01_Text.t9_ok : ∀ s : Vals bursarref01_Text.sh9.tys, turnK P bursarref01_Text.H (lp []) (bodyAt (codeOf P 40) 9) 0 bursarref01_Text.sh9 bursarref01_Text.os9 s some = bursarref01_Text.t9 s := fun s => by kernel_rfl
noncomputable def bursarref01_Text.l9 : (Int × (ByteArray × (ByteArray × Int))) → Option ((ByteArray × ByteArray)) := rounds bursarref01_Text.t9
noncomputable def bursarref01_Text.f (a : Int) : Option ByteArray := (bif (decide ((a ≥ (0 : Int)))) then (((bursarref01_Text.l9 ((IntKind.wrap .i64 ((0 : Int) - a)), ((bs []), ((bs []), (0 : Int)))))).bind fun (x1 : (ByteArray × ByteArray)) => (bif (Nat.ble (x1.1.size + x1.2.size) 9223372036854775807) then (some (x1.1 ++ x1.2)) else none)) else (((bursarref01_Text.l9 (a, ((bs [45]), ((bs []), (0 : Int)))))).bind fun (x1 : (ByteArray × ByteArray)) => (bif (Nat.ble (x1.1.size + x1.2.size) 9223372036854775807) then (some (x1.1 ++ x1.2)) else none)))
theorem bursarref01_Text.ok : ∀ a : Vals bursarref01_Text.As.tys, fnK P bursarref01_Text.H (lp [(9, NodeT.summ ⟨bursarref01_Text.sh9, bursarref01_Text.os9, bursarref01_Text.l9⟩ 0)]) 40 bursarref01_Text.As bursarref01_Text.m a some = bursarref01_Text.f a := fun a => by kernel_rfl
noncomputable abbrev bursarref01_Text.row : Row := fnRow 40 bursarref01_Text.As bursarref01_Text.m bursarref01_Text.f
theorem bursarref01_Text.row_ok : RowOK P G0 bursarref01_Text.row := row_told bursarref01_Text.hok (lp_of (l := [(9, NodeT.summ ⟨bursarref01_Text.sh9, bursarref01_Text.os9, bursarref01_Text.l9⟩ 0)]) ⟨loop_sum bursarref01_Text.hok (by kernel_rfl) (by kernel_rfl) (l := []) trivial bursarref01_Text.sh9 bursarref01_Text.os9 (by kernel_rfl) bursarref01_Text.t9 bursarref01_Text.t9_ok, trivial⟩) (fun _ => rfl) bursarref01_Text.ok
end Go.Proofs.YtbjajidphaeogaaDoor
end
section
/- The Go function bursarref01.Parse, as a Lean function, and that it is this one. Written by a program of this session. -/
set_option linter.unusedVariables false
set_option maxRecDepth 100000
namespace Go.Proofs.YtbjajidphaeogaaDoor
open Go Go.Fw
abbrev bursarref01_Parse.As : Shs := (.cons (.x .s) .nil)
abbrev bursarref01_Parse.m : Back := [(false, (.i .i64)), (false, .b)]
noncomputable abbrev bursarref01_Parse.H : HK := hk P G0 E0 [bursarref01_Text.row] noLoops 4
theorem bursarref01_Parse.hok : HKOK P bursarref01_Parse.H := hk_ok e0_ok (rows_ok (ws := [bursarref01_Text.row]) ⟨bursarref01_Text.row_ok, trivial⟩) (fun g n => noLoops_ok g n) 4
abbrev bursarref01_Parse.sh9 : SSh := ⟨[(0, (.x .s)), (4, (.x .b)), (6, (.x (.i .i64))), (7, (.x (.i .i64)))], []⟩
abbrev bursarref01_Parse.os9 : PEnds := [(.ret, ⟨[(2, (.x (.i .i64))), (3, (.x .b))], []⟩), ((.exit 0), ⟨[(0, (.x .s)), (4, (.x .b)), (6, (.x (.i .i64)))], []⟩)]
noncomputable def bursarref01_Parse.t9 (s : (ByteArray × (Bool × (Int × Int)))) : Option ((ByteArray × (Bool × (Int × Int))) ⊕ ((Int × Bool) ⊕ (ByteArray × (Bool × Int)))) := (bif (decide ((s.2.2.2 < (s.1.size : Int)))) then (bif (s.2.2.2 == (IntKind.wrap .i64 ((s.1.size : Int) - (3 : Int)))) then (bif ((decide (((0 : Int) ≤ s.2.2.2))) && (decide ((s.2.2.2 < (s.1.size : Int))))) then (bif ((bt s.1 (Int.toNat s.2.2.2)) == (46 : Int)) then (some (.inl (s.1, (s.2.1, (s.2.2.1, (IntKind.wrap .i64 (s.2.2.2 + (1 : Int)))))))) else (bif ((decide (((0 : Int) ≤ s.2.2.2))) && (decide ((s.2.2.2 < (s.1.size : Int))))) then (bif (decide (((bt s.1 (Int.toNat s.2.2.2)) < (48 : Int)))) then (some (.inr (.inl ((0 : Int), false)))) else (bif ((decide (((0 : Int) ≤ s.2.2.2))) && (decide ((s.2.2.2 < (s.1.size : Int))))) then (bif (decide (((bt s.1 (Int.toNat s.2.2.2)) > (57 : Int)))) then (some (.inr (.inl ((0 : Int), false)))) else (bif ((decide (((0 : Int) ≤ s.2.2.2))) && (decide ((s.2.2.2 < (s.1.size : Int))))) then (bif (decide ((s.2.2.1 < (-922337203685477580 : Int)))) then (some (.inr (.inl ((0 : Int), false)))) else (bif (s.2.2.1 == (-922337203685477580 : Int)) then (bif (decide (((IntKind.wrap .i64 ((IntKind.wrap .i64 (bt s.1 (Int.toNat s.2.2.2))) - (48 : Int))) > (8 : Int)))) then (some (.inr (.inl ((0 : Int), false)))) else (some (.inl (s.1, (s.2.1, ((IntKind.wrap .i64 ((IntKind.wrap .i64 ((10 : Int) * s.2.2.1)) - (IntKind.wrap .i64 ((IntKind.wrap .i64 (bt s.1 (Int.toNat s.2.2.2))) - (48 : Int))))), (IntKind.wrap .i64 (s.2.2.2 + (1 : Int))))))))) else (some (.inl (s.1, (s.2.1, ((IntKind.wrap .i64 ((IntKind.wrap .i64 ((10 : Int) * s.2.2.1)) - (IntKind.wrap .i64 ((IntKind.wrap .i64 (bt s.1 (Int.toNat s.2.2.2))) - (48 : Int))))), (IntKind.wrap .i64 (s.2.2.2 + (1 : Int)))))))))) else none)) else none)) else none)) else none) else (bif ((decide (((0 : Int) ≤ s.2.2.2))) && (decide ((s.2.2.2 < (s.1.size : Int))))) then (bif (decide (((bt s.1 (Int.toNat s.2.2.2)) < (48 : Int)))) then (some (.inr (.inl ((0 : Int), false)))) else (bif ((decide (((0 : Int) ≤ s.2.2.2))) && (decide ((s.2.2.2 < (s.1.size : Int))))) then (bif (decide (((bt s.1 (Int.toNat s.2.2.2)) > (57 : Int)))) then (some (.inr (.inl ((0 : Int), false)))) else (bif ((decide (((0 : Int) ≤ s.2.2.2))) && (decide ((s.2.2.2 < (s.1.size : Int))))) then (bif (decide ((s.2.2.1 < (-922337203685477580 : Int)))) then (some (.inr (.inl ((0 : Int), false)))) else (bif (s.2.2.1 == (-922337203685477580 : Int)) then (bif (decide (((IntKind.wrap .i64 ((IntKind.wrap .i64 (bt s.1 (Int.toNat s.2.2.2))) - (48 : Int))) > (8 : Int)))) then (some (.inr (.inl ((0 : Int), false)))) else (some (.inl (s.1, (s.2.1, ((IntKind.wrap .i64 ((IntKind.wrap .i64 ((10 : Int) * s.2.2.1)) - (IntKind.wrap .i64 ((IntKind.wrap .i64 (bt s.1 (Int.toNat s.2.2.2))) - (48 : Int))))), (IntKind.wrap .i64 (s.2.2.2 + (1 : Int))))))))) else (some (.inl (s.1, (s.2.1, ((IntKind.wrap .i64 ((IntKind.wrap .i64 ((10 : Int) * s.2.2.1)) - (IntKind.wrap .i64 ((IntKind.wrap .i64 (bt s.1 (Int.toNat s.2.2.2))) - (48 : Int))))), (IntKind.wrap .i64 (s.2.2.2 + (1 : Int)))))))))) else none)) else none)) else none)) else (some (.inr (.inr (s.1, (s.2.1, s.2.2.1))))))
theorem bursarref01_Parse.t9_ok : ∀ s : Vals bursarref01_Parse.sh9.tys, turnK P bursarref01_Parse.H (lp []) (bodyAt (codeOf P 39) 9) 0 bursarref01_Parse.sh9 bursarref01_Parse.os9 s some = bursarref01_Parse.t9 s := fun s => by kernel_rfl
noncomputable def bursarref01_Parse.l9 : (ByteArray × (Bool × (Int × Int))) → Option ((Int × Bool) ⊕ (ByteArray × (Bool × Int))) := rounds bursarref01_Parse.t9
noncomputable def bursarref01_Parse.f (a : ByteArray) : Option (Int × Bool) := (bif (decide (((a.size : Int) > (0 : Int)))) then (bif (true && (decide (((0 : Int) < (a.size : Int))))) then (bif ((bt a 0) == (45 : Int)) then (((bursarref01_Parse.l9 (a, (((bt a 0) == (45 : Int)), ((0 : Int), (1 : Int)))))).bind fun (x1 : ((Int × Bool) ⊕ (ByteArray × (Bool × Int)))) => (match x1 with | .inl x2 => (some x2) | .inr x2 => (bif (!x2.2.1) then (bif (x2.2.2 == (-9223372036854775808 : Int)) then (some ((0 : Int), false)) else (((bursarref01_Text.f (IntKind.wrap .i64 ((0 : Int) - x2.2.2)))).bind fun (x3 : ByteArray) => (some ((IntKind.wrap .i64 ((0 : Int) - x2.2.2)), ((ByteArray.toList x3) == (ByteArray.toList x2.1)))))) else (((bursarref01_Text.f x2.2.2)).bind fun (x3 : ByteArray) => (some (x2.2.2, ((ByteArray.toList x3) == (ByteArray.toList x2.1)))))))) else (((bursarref01_Parse.l9 (a, (((bt a 0) == (45 : Int)), ((0 : Int), (0 : Int)))))).bind fun (x1 : ((Int × Bool) ⊕ (ByteArray × (Bool × Int)))) => (match x1 with | .inl x2 => (some x2) | .inr x2 => (bif (!x2.2.1) then (bif (x2.2.2 == (-9223372036854775808 : Int)) then (some ((0 : Int), false)) else (((bursarref01_Text.f (IntKind.wrap .i64 ((0 : Int) - x2.2.2)))).bind fun (x3 : ByteArray) => (some ((IntKind.wrap .i64 ((0 : Int) - x2.2.2)), ((ByteArray.toList x3) == (ByteArray.toList x2.1)))))) else (((bursarref01_Text.f x2.2.2)).bind fun (x3 : ByteArray) => (some (x2.2.2, ((ByteArray.toList x3) == (ByteArray.toList x2.1))))))))) else none) else (((bursarref01_Parse.l9 (a, (false, ((0 : Int), (0 : Int)))))).bind fun (x1 : ((Int × Bool) ⊕ (ByteArray × (Bool × Int)))) => (match x1 with | .inl x2 => (some x2) | .inr x2 => (bif (!x2.2.1) then (bif (x2.2.2 == (-9223372036854775808 : Int)) then (some ((0 : Int), false)) else (((bursarref01_Text.f (IntKind.wrap .i64 ((0 : Int) - x2.2.2)))).bind fun (x3 : ByteArray) => (some ((IntKind.wrap .i64 ((0 : Int) - x2.2.2)), ((ByteArray.toList x3) == (ByteArray.toList x2.1)))))) else (((bursarref01_Text.f x2.2.2)).bind fun (x3 : ByteArray) => (some (x2.2.2, ((ByteArray.toList x3) == (ByteArray.toList x2.1)))))))))
theorem bursarref01_Parse.ok : ∀ a : Vals bursarref01_Parse.As.tys, fnK P bursarref01_Parse.H (lp [(9, NodeT.summ ⟨bursarref01_Parse.sh9, bursarref01_Parse.os9, bursarref01_Parse.l9⟩ 0)]) 39 bursarref01_Parse.As bursarref01_Parse.m a some = bursarref01_Parse.f a := fun a => by kernel_rfl
noncomputable abbrev bursarref01_Parse.row : Row := fnRow 39 bursarref01_Parse.As bursarref01_Parse.m bursarref01_Parse.f
theorem bursarref01_Parse.row_ok : RowOK P G0 bursarref01_Parse.row := row_told bursarref01_Parse.hok (lp_of (l := [(9, NodeT.summ ⟨bursarref01_Parse.sh9, bursarref01_Parse.os9, bursarref01_Parse.l9⟩ 0)]) ⟨loop_sum bursarref01_Parse.hok (by kernel_rfl) (by kernel_rfl) (l := []) trivial bursarref01_Parse.sh9 bursarref01_Parse.os9 (by kernel_rfl) bursarref01_Parse.t9 bursarref01_Parse.t9_ok, trivial⟩) (fun _ => rfl) bursarref01_Parse.ok
end Go.Proofs.YtbjajidphaeogaaDoor
end
section
/- An amount's text: what the code and the document's answer make of it. By this session. -/
set_option linter.unusedVariables false
set_option linter.unusedSimpArgs false
namespace Go.Proofs.YtbjajidphaeogaaDoor
open Go Go.Fw
def Am (a : Int) : Prop := -9223372036854775808 ≤ a ∧ a ≤ 9223372036854775807
/-- an amount's text without its sign -/
def body (n : Nat) : List UInt8 := decP 19 (n / 1000) ++ [dgt (n / 100 % 10), 46, dgt (n / 10 % 10), dgt (n % 10)]
/-- an amount's text -/
def txt (a : Int) : List UInt8 := (if a < 0 then [45] else []) ++ body a.natAbs
theorem txt_len (a : Int) : (txt a).length ≤ 24 := by
  have := decP_len 19 (a.natAbs / 1000)
  unfold txt body
  split <;> simp <;> omega
theorem size_is {a : Int} (ha : Am a) : money_size.f a = some (a.natAbs : Int) := by
  obtain ⟨h1, h2⟩ := ha
  unfold money_size.f
  simp only [wrap_u64]
  by_cases h : a < 0 <;> simp [h] <;> omega
theorem signed_is {u : Nat} {b : Bool} (h : u < 18446744073709551616) : ∃ r, money_signed.f ((u : Int), b) = some r ∧ (r = (0, 2) ∨ (Am (bif b then -(u : Int) else u) ∧ r = (bif b then -(u : Int) else u, 0))) ∧ (Am (bif b then -(u : Int) else u) → r = (bif b then -(u : Int) else u, 0)) := by
  unfold money_signed.f Am
  simp only [wrap_u64, IntKind.wrap_i64]
  cases b
  · by_cases h1 : (u : Int) ≤ 9223372036854775807
    · simp [h1]; omega
    · simp [h1]
  · by_cases h1 : (u : Int) ≤ 9223372036854775808
    · simp [h1]; omega
    · simp [h1]
theorem fmtU_is {n : Nat} (h : n < 18446744073709551616) : fmtU ((n : Int), 10) = some (bs (decF 20 n)) := by
  unfold fmtU
  have h1 : (decide ((0 : Int) ≤ (n : Int)) && decide ((n : Int) < 18446744073709551616) && decide ((10 : Int) = 10)) = true := by
    have h0 : (n : Int) < 18446744073709551616 := by omega
    simp [h0]
  rw [h1]
  simp [bs]
theorem cents_is (n : Nat) : strconv_FormatUint.f (((n % 100 + 100 : Nat) : Int), 10) = some (bs [dgt 1, dgt (n / 10 % 10), dgt (n % 10)]) := by
  show fmtU _ = _
  have h0 : decP 19 ((n % 100 + 100) / 10) = [dgt 1, dgt (n / 10 % 10)] := by
    unfold decP
    rw [if_neg (by omega)]
    unfold decP
    rw [if_neg (by omega)]
    unfold decP
    rw [if_pos (by omega)]
    rw [show (n % 100 + 100) / 10 / 10 % 10 = 1 by omega, show (n % 100 + 100) / 10 % 10 = n / 10 % 10 by omega]
    rfl
  rw [fmtU_is (by omega), decF_decP 19 _ (by omega), h0, show (n % 100 + 100) % 10 = n % 10 by omega]
  rfl
theorem whole_is {n : Nat} (hn : n ≤ 9223372036854775808) : strconv_FormatUint.f (((n / 100 : Nat) : Int), 10) = some (bs (decP 19 (n / 1000) ++ [dgt (n / 100 % 10)])) := by
  show fmtU _ = _
  rw [fmtU_is (by omega), decF_decP 19 _ (by omega), show n / 100 / 10 = n / 1000 by omega]
theorem Text_is {a : Int} (ha : Am a) : money_Text.f a = some (bs (txt a)) := by
  have hn : a.natAbs ≤ 9223372036854775808 := by obtain ⟨h1, h2⟩ := ha; omega
  unfold money_Text.f
  rw [size_is ha]
  unfold txt
  obtain ⟨n, hN⟩ : ∃ n, a.natAbs = n := ⟨_, rfl⟩
  rw [hN] at hn ⊢
  have e1 : IntKind.wrap .u64 (Int.tmod (n : Int) 100 + 100) = ((n % 100 + 100 : Nat) : Int) := by
    rw [wrap_u64, show Int.tmod (n : Int) 100 = ((n % 100 : Nat) : Int) from (Int.ofNat_tmod n 100).symm]
    omega
  have e2 : IntKind.wrap .u64 (Int.tdiv (n : Int) 100) = ((n / 100 : Nat) : Int) := by
    rw [wrap_u64, show Int.tdiv (n : Int) 100 = ((n / 100 : Nat) : Int) from (Int.ofNat_tdiv n 100).symm]
    omega
  have f1 := cents_is n
  have f2 := whole_is hn
  have hl := decP_len 19 (n / 1000)
  unfold body
  obtain ⟨d, hd⟩ : ∃ d, decP 19 (n / 1000) = d := ⟨_, rfl⟩
  rw [hd] at hl f2 ⊢
  have b1 : ∀ k, k ≤ 100 → Nat.ble k 9223372036854775807 = true := fun k h => Nat.ble_eq_true_of_le (by omega)
  by_cases h : a < 0
  · rw [decide_eq_true h, if_pos h]
    rw [cond_true, Option.bind_some, e1, f1, Option.bind_some, e2, f2, Option.bind_some]
    simp only [bs_append, bs_size, bs_extract, Bool.true_and]
    rw [b1 _ (by simp; omega), b1 _ (by simp; omega), b1 _ (by simp; omega)]
    simp
  · rw [decide_eq_false h, if_neg h]
    rw [cond_false, Option.bind_some, e1, f1, Option.bind_some, e2, f2, Option.bind_some]
    simp only [bs_append, bs_size, bs_extract, Bool.true_and]
    rw [b1 _ (by simp; omega), b1 _ (by simp; omega), b1 _ (by simp; omega)]
    simp
/-- one digit more of the document's -/
theorem step_is (sg : ByteArray) {m i : Nat} {l : List UInt8} (hm : m ≤ 9223372036854775808) (hi : i ≤ 1000) (hl : l.length ≤ 1000) (h : i < 3 ∨ 0 < m) :
    bursarref01_Text.t9 (-(m : Int), (sg, (bs l, (i : Int)))) = some (.inl (-((m / 10 : Nat) : Int), (sg, (bs (dgt (m % 10) :: (if i = 2 then 46 :: l else l)), ((i + 1 : Nat) : Int))))) := by
  unfold bursarref01_Text.t9
  have e1 : IntKind.wrap .i64 (Int.tdiv (-(m : Int)) 10) = -((m / 10 : Nat) : Int) := by
    rw [Int.neg_tdiv, show Int.tdiv (m : Int) 10 = ((m / 10 : Nat) : Int) from (Int.ofNat_tdiv m 10).symm, wrap_i64 (by omega) (by omega)]
  have e2 : IntKind.wrap .u8 (IntKind.wrap .i64 ((48 : Int) - (Int.tmod (-(m : Int)) (10 : Int)))) = ((48 + m % 10 : Nat) : Int) := by
    rw [Int.neg_tmod, show Int.tmod (m : Int) 10 = ((m % 10 : Nat) : Int) from (Int.ofNat_tmod m 10).symm, wrap_i64 (by omega) (by omega), wrap_u8]
    omega
  have e3 : IntKind.wrap .i64 ((i : Int) + 1) = ((i + 1 : Nat) : Int) := wrap_up (by omega)
  have e4 : (ByteArray.mk (List.toArray (List.map (fun y4 => (UInt8.ofNat (Int.toNat y4))) [((48 + m % 10 : Nat) : Int)]))) = bs [dgt (m % 10)] := by
    show bs [UInt8.ofNat (Int.toNat ((48 + m % 10 : Nat) : Int))] = _
    rw [Int.toNat_natCast]
  have b1 : ∀ k, k ≤ 2000 → Nat.ble k 9223372036854775807 = true := fun k h => Nat.ble_eq_true_of_le (by omega)
  simp only [e1, e2, e3, e4, bs_append, bs_size]
  by_cases h2 : i = 2
  · subst h2
    have h3 : (((2 : Nat) : Int) == 2) = true := rfl
    have h4 : ((2 : Nat) : Int) < 3 := by omega
    simp only [h3, h4, decide_true, cond_true]
    rw [b1 _ (by omega), b1 _ (by simp; omega)]
    rfl
  · have h3 : ((i : Int) == 2) = false := by rw [beq_eq_false_iff_ne]; omega
    simp only [h3, cond_false, if_neg h2]
    rw [b1 _ (by simp; omega)]
    by_cases h4 : (i : Int) < 3
    · simp only [h4, decide_true, cond_true]; rfl
    · have h5 : -(m : Int) < 0 := by omega
      simp only [h4, h5, decide_true, decide_false, cond_true, cond_false]; rfl
theorem tail_is (sg : ByteArray) : ∀ (k n i : Nat) (l : List UInt8), n < 10 ^ k → k + i ≤ 1000 → 3 ≤ i → k + l.length ≤ 1000 → n ≤ 9223372036854775808 →
    bursarref01_Text.l9 (-(n : Int), (sg, (bs l, (i : Int)))) = some (sg, bs (decP k n ++ l))
  | k, 0, i, l, _, hi, h3, hl, _ => by
    unfold bursarref01_Text.l9
    rw [rounds_end (r := (sg, bs l))]
    · cases k <;> simp [decP]
    · unfold bursarref01_Text.t9
      have h1 : ¬ (i : Int) < 3 := by omega
      simp [h1]
  | 0, n + 1, i, l, h, _, _, _, _ => by simp at h
  | k + 1, n + 1, i, l, h, hi, h3, hl, hn => by
    have ih := tail_is sg k ((n + 1) / 10) (i + 1) (dgt ((n + 1) % 10) :: l) (by have : 10 ^ (k + 1) = 10 ^ k * 10 := Nat.pow_succ ..; omega) (by omega) (by omega) (by simp; omega) (by omega)
    unfold bursarref01_Text.l9 at ih ⊢
    rw [rounds_next (step_is sg hn (by omega) (by omega) (.inr (by omega))), if_neg (by omega), ih]
    simp [decP]
theorem digits_is (sg : ByteArray) {n : Nat} (hn : n ≤ 9223372036854775808) : bursarref01_Text.l9 (-(n : Int), (sg, (bs [], (0 : Int)))) = some (sg, bs (body n)) := by
  have h0 := step_is sg (m := n) (i := 0) (l := []) hn (by omega) (by simp) (.inl (by omega))
  have h1 := step_is sg (m := n / 10) (i := 1) (l := [dgt (n % 10)]) (by omega) (by omega) (by simp) (.inl (by omega))
  have h2 := step_is sg (m := n / 10 / 10) (i := 2) (l := [dgt (n / 10 % 10), dgt (n % 10)]) (by omega) (by omega) (by simp) (.inl (by omega))
  have h3 := tail_is sg 19 (n / 10 / 10 / 10) 3 [dgt (n / 10 / 10 % 10), 46, dgt (n / 10 % 10), dgt (n % 10)] (by omega) (by omega) (by omega) (by simp) (by omega)
  unfold bursarref01_Text.l9 at h3 ⊢
  refine (rounds_next h0).trans ((rounds_next h1).trans ((rounds_next h2).trans (h3.trans ?_)))
  unfold body
  rw [show n / 10 / 10 / 10 = n / 1000 by omega, show n / 10 / 10 % 10 = n / 100 % 10 by omega]
theorem ref_Text_is {a : Int} (ha : Am a) : bursarref01_Text.f a = some (bs (txt a)) := by
  obtain ⟨h1, h2⟩ := ha
  have b1 : ∀ k, k ≤ 100 → Nat.ble k 9223372036854775807 = true := fun k h => Nat.ble_eq_true_of_le (by omega)
  have hl : (body a.natAbs).length ≤ 23 := by
    have := decP_len 19 (a.natAbs / 1000)
    unfold body; simp; omega
  unfold bursarref01_Text.f txt
  by_cases h : a < 0
  · rw [decide_eq_false (by omega), if_pos h, cond_false]
    rw [show a = -(a.natAbs : Int) by omega, digits_is (bs [45]) (by omega), show (-(a.natAbs : Int)).natAbs = a.natAbs by omega]
    simp only [Option.bind_some, bs_append, bs_size]
    rw [b1 _ (by simp; omega)]
    rfl
  · rw [decide_eq_true (by omega), if_neg h, cond_true, wrap_i64 (by omega) (by omega)]
    rw [show (0 : Int) - a = -(a.natAbs : Int) by omega, digits_is (bs []) (by omega)]
    simp only [Option.bind_some, bs_append, bs_size]
    rw [b1 _ (by simp; omega)]
    rfl
end Go.Proofs.YtbjajidphaeogaaDoor
end
section
/- An amount of a text: what the document's answer reads. By this session. -/
set_option linter.unusedVariables false
set_option linter.unusedSimpArgs false
namespace Go.Proofs.YtbjajidphaeogaaDoor
open Go Go.Fw
/-- a number below 0, read on -/
def pr : List UInt8 → Int → Option Int
  | [], acc => some acc
  | c :: r, acc => if r.length = 2 ∧ c.toNat = 46 then pr r acc
    else if c.toNat < 48 ∨ 57 < c.toNat then none
    else if acc < -922337203685477580 ∨ acc = -922337203685477580 ∧ 56 < c.toNat then none
    else pr r (10 * acc - ((c.toNat : Int) - 48))
def Neg (a : Int) : Prop := -9223372036854775808 ≤ a ∧ a ≤ 0
theorem pr_neg : ∀ (l : List UInt8) (acc v : Int), Neg acc → pr l acc = some v → Neg v
  | [], acc, v, h, e => by injection e with e; subst e; exact h
  | c :: r, acc, v, h, e => by
    unfold pr at e
    split at e
    · exact pr_neg r _ _ h e
    · split at e
      · cases e
      · split at e
        · cases e
        · refine pr_neg r _ _ ?_ e
          obtain ⟨h1, h2⟩ := h
          constructor <;> omega
theorem drop_cons {α : Type} {l r : List α} {c : α} {i : Nat} (d : α) (h : l.drop i = c :: r) : l.getD i d = c ∧ l.drop (i + 1) = r ∧ i + 1 + r.length = l.length := by
  have hl := congrArg List.length h
  simp only [List.length_drop, List.length_cons] at hl
  refine ⟨?_, ?_, by omega⟩
  · have := congrArg (fun x => x[0]?) h
    simp only [List.getElem?_drop, List.getElem?_cons_zero, Nat.add_zero] at this
    rw [List.getD_eq_getElem?_getD, this]; rfl
  · rw [← List.drop_drop, h]; rfl
theorem turn_is {all r : List UInt8} {c : UInt8} {b : Bool} {i : Nat} {acc : Int} (hall : all.length ≤ 1000) (g1 : all.getD i 0 = c) (g3 : i + 1 + r.length = all.length) (hn : Neg acc) :
    bursarref01_Parse.t9 (bs all, (b, (acc, (i : Int)))) = some (if r.length = 2 ∧ c.toNat = 46 then .inl (bs all, (b, (acc, ((i + 1 : Nat) : Int)))) else if c.toNat < 48 ∨ 57 < c.toNat then .inr (.inl (0, false))
      else if acc < -922337203685477580 ∨ acc = -922337203685477580 ∧ 56 < c.toNat then .inr (.inl (0, false)) else .inl (bs all, (b, (10 * acc - ((c.toNat : Int) - 48), ((i + 1 : Nat) : Int))))) := by
  obtain ⟨n1, n2⟩ := hn
  have hb : bt (bs all) (Int.toNat (i : Int)) = (c.toNat : Int) := by rw [bt_bs, Int.toNat_natCast, g1]
  have hz : (((bs all).size : Nat) : Int) = (all.length : Int) := by rw [bs_size]
  have e3 : IntKind.wrap .i64 ((i : Int) + 1) = ((i + 1 : Nat) : Int) := wrap_up (by omega)
  have e4 : IntKind.wrap .i64 ((all.length : Int) - 3) = (all.length : Int) - 3 := wrap_i64 (by omega) (by omega)
  have hc := c.toNat_lt
  have e5 : IntKind.wrap .i64 (IntKind.wrap .i64 (c.toNat : Int) - 48) = (c.toNat : Int) - 48 := by rw [wrap_i64 (n := (c.toNat : Int)) (by omega) (by omega), wrap_i64 (by omega) (by omega)]
  have c1 : (i : Int) < (all.length : Int) := by omega
  have c2 : (0 : Int) ≤ (i : Int) := by omega
  have hsk : ((i : Int) == (all.length : Int) - 3) = decide (r.length = 2) := by
    rw [Bool.eq_iff_iff, beq_iff_eq, decide_eq_true_iff]; omega
  have hdot : ((c.toNat : Int) == 46) = decide (c.toNat = 46) := by
    rw [Bool.eq_iff_iff, beq_iff_eq, decide_eq_true_iff]; omega
  unfold bursarref01_Parse.t9
  simp only [hz, hb, e3, e4, e5, c1, c2, decide_true, Bool.true_and, cond_true, hsk, hdot]
  by_cases k1 : r.length = 2 ∧ c.toNat = 46
  · rw [if_pos k1]
    simp only [k1.1, k1.2, decide_true, cond_true]
  · rw [if_neg k1]
    have k1' : decide (r.length = 2) = false ∨ decide (c.toNat = 46) = false := by
      simp only [decide_eq_false_iff_not]; omega
    by_cases k2 : c.toNat < 48 ∨ 57 < c.toNat
    · rw [if_pos k2]
      by_cases k3 : (c.toNat : Int) < 48
      · rcases k1' with k1' | k1' <;> simp only [k1', k3, decide_true, cond_true, cond_false, Bool.cond_self]
      · have k4 : (c.toNat : Int) > 57 := by omega
        rcases k1' with k1' | k1' <;> simp only [k1', k3, k4, decide_true, decide_false, cond_true, cond_false, Bool.cond_self]
    · rw [if_neg k2]
      have k3 : ¬ (c.toNat : Int) < 48 := by omega
      have k4 : ¬ (c.toNat : Int) > 57 := by omega
      by_cases k5 : acc < -922337203685477580 ∨ acc = -922337203685477580 ∧ 56 < c.toNat
      · rw [if_pos k5]
        by_cases k6 : acc < -922337203685477580
        · rcases k1' with k1' | k1' <;> simp only [k1', k3, k4, k6, decide_true, decide_false, cond_true, cond_false, Bool.cond_self]
        · have k7 : (acc == -922337203685477580) = true := by rw [beq_iff_eq]; omega
          have k8 : (c.toNat : Int) - 48 > 8 := by omega
          rcases k1' with k1' | k1' <;> simp only [k1', k3, k4, k6, k7, k8, decide_true, decide_false, cond_true, cond_false, Bool.cond_self]
      · rw [if_neg k5]
        have e6 : IntKind.wrap .i64 (IntKind.wrap .i64 (10 * acc) - ((c.toNat : Int) - 48)) = 10 * acc - ((c.toNat : Int) - 48) := by
          rw [wrap_i64 (n := 10 * acc) (by omega) (by omega), wrap_i64 (by omega) (by omega)]
        have k6 : ¬ acc < -922337203685477580 := by omega
        simp only [e6]
        by_cases k7 : acc = -922337203685477580
        · have k8 : ¬ (c.toNat : Int) - 48 > 8 := by omega
          rcases k1' with k1' | k1' <;> simp only [k1', k3, k4, k6, k8, decide_false, cond_true, cond_false, Bool.cond_self]
        · have k8 : (acc == -922337203685477580) = false := by rw [beq_eq_false_iff_ne]; exact k7
          rcases k1' with k1' | k1' <;> simp only [k1', k3, k4, k6, k8, decide_false, cond_true, cond_false, Bool.cond_self]
theorem read_is (all : List UInt8) (b : Bool) (hall : all.length ≤ 1000) : ∀ (l : List UInt8) (i : Nat) (acc : Int), all.drop i = l → i ≤ all.length → Neg acc →
    bursarref01_Parse.l9 (bs all, (b, (acc, (i : Int)))) = some (match pr l acc with | none => .inl (0, false) | some v => .inr (bs all, (b, v)))
  | [], i, acc, h, hi, hn => by
    have hl := congrArg List.length h
    simp only [List.length_drop, List.length_nil] at hl
    unfold bursarref01_Parse.l9
    rw [rounds_end (r := .inr (bs all, (b, acc)))]
    · rfl
    · unfold bursarref01_Parse.t9
      have h1 : ¬ (i : Int) < ((bs all).size : Int) := by rw [bs_size]; omega
      simp only [h1, decide_false, cond_false]
  | c :: r, i, acc, h, hi, hn => by
    obtain ⟨g1, g2, g3⟩ := drop_cons 0 h
    have ih := fun acc' hn' => read_is all b hall r (i + 1) acc' g2 (by omega) hn'
    have st := turn_is (b := b) hall g1 g3 hn
    unfold bursarref01_Parse.l9 at ih ⊢
    unfold pr
    split at st
    · rename_i k; rw [if_pos k, rounds_next st]; exact ih acc hn
    · rename_i k; rw [if_neg k]
      split at st
      · rename_i k; rw [if_pos k, rounds_end st]
      · rename_i k; rw [if_neg k]
        split at st
        · rename_i k; rw [if_pos k, rounds_end st]
        · rename_i k' k; rw [if_neg k, rounds_next st]
          exact ih _ (by obtain ⟨n1, n2⟩ := hn; constructor <;> omega)
/-- the document's amount of a text, whose digits are told -/
def refRead (b : Bool) (l r : List UInt8) : Int × Bool :=
  match pr r 0 with
  | none => (0, false)
  | some v => if b = true then (v, decide (txt v = l)) else if v = -9223372036854775808 then (0, false) else (-v, decide (txt (-v) = l))
/-- the document's amount of a text -/
def refParse (l : List UInt8) : Int × Bool := if l.head? = some 45 then refRead true l (l.drop 1) else refRead false l l
theorem ref_Parse_is {l : List UInt8} (hl : l.length ≤ 1000) : bursarref01_Parse.f (bs l) = some (refParse l) := by
  have z : Neg 0 := ⟨by omega, by omega⟩
  have hr := fun b i (hi : i ≤ l.length) => read_is l b hl (l.drop i) i 0 rfl hi z
  have hv := fun i v (h : pr (l.drop i) 0 = some v) => pr_neg _ _ _ z h
  unfold bursarref01_Parse.f refParse
  simp only [bs_size, texts_eq, bt_bs]
  have fin : ∀ (i : Nat) (b : Bool), i ≤ l.length → (bursarref01_Parse.l9 (bs l, (b, ((0 : Int), (i : Int))))).bind (fun (x1 : ((Int × Bool) ⊕ (ByteArray × (Bool × Int)))) => (match x1 with | .inl x2 => (some x2) | .inr x2 => (bif (!x2.2.1) then (bif (x2.2.2 == (-9223372036854775808 : Int)) then (some ((0 : Int), false)) else (((bursarref01_Text.f (IntKind.wrap .i64 ((0 : Int) - x2.2.2)))).bind fun (x3 : ByteArray) => (some ((IntKind.wrap .i64 ((0 : Int) - x2.2.2)), decide (x3 = x2.1))))) else (((bursarref01_Text.f x2.2.2)).bind fun (x3 : ByteArray) => (some (x2.2.2, decide (x3 = x2.1)))))))
      = some (refRead b l (l.drop i)) := by
    intro i b hi
    rw [hr b i hi]
    unfold refRead
    cases hp : pr (l.drop i) 0 with
    | none => rfl
    | some v =>
      obtain ⟨v1, v2⟩ := hv i v hp
      cases b
      · simp only [Option.bind_some, Bool.not_false, cond_true, Bool.false_eq_true, if_false]
        by_cases hm : v = -9223372036854775808
        · subst hm; rfl
        · rw [if_neg hm, show (v == -9223372036854775808) = false by rw [beq_eq_false_iff_ne]; exact hm, cond_false, wrap_i64 (by omega) (by omega), ref_Text_is ⟨by omega, by omega⟩]
          simp only [Option.bind_some, bs_inj, Int.zero_sub]
      · simp only [Option.bind_some, Bool.not_true, cond_false, if_true]
        rw [ref_Text_is ⟨by omega, by omega⟩]
        simp only [Option.bind_some, bs_inj]
  cases l with
  | nil => exact fin 0 false (by omega)
  | cons c r =>
    have h1 : ((c :: r).length : Int) > 0 := by simp
    have h2 : (0 : Int) < ((c :: r).length : Int) := h1
    simp only [h1, h2, decide_true, cond_true, Bool.true_and]
    by_cases hc : c = 45
    · subst hc
      rw [if_pos (by rfl)]
      exact fin 1 true (by simp)
    · have h3 : (((List.getD (c :: r) 0 0).toNat : Int) == 45) = false := by
        rw [beq_eq_false_iff_ne]
        intro h
        apply hc
        apply UInt8.toNat_inj.1
        simp at h
        show c.toNat = 45
        omega
      simp only [h3, cond_false]
      rw [if_neg (by simpa using hc)]
      exact fin 0 false (by omega)
end Go.Proofs.YtbjajidphaeogaaDoor
end
section
/- An amount of a text: what the code reads. By this session. -/
set_option linter.unusedVariables false
set_option linter.unusedSimpArgs false
namespace Go.Proofs.YtbjajidphaeogaaDoor
open Go Go.Fw
def cut (l : List UInt8) : List UInt8 := if 0 ≤ Lib.indexByte l 46 then l.take (Lib.indexByte l 46).toNat ++ l.drop ((Lib.indexByte l 46).toNat + 1) else l
def sgn (b : Bool) (u : Nat) : Int := bif b then -(u : Int) else u
/-- what the code may read of a text: nothing, or an amount whose text it is -/
def Reads (b : Bool) (l r : List UInt8) (q : Int × Int) : Prop :=
  (q = (0, 4) ∨ ∃ v, Am v ∧ txt v = l ∧ q = (v, 0)) ∧ ∀ u, Lib.parseUintB 64 (cut r) = .ok u → Am (sgn b u) → txt (sgn b u) = l → q = (sgn b u, 0)
theorem tail_reads (b : Bool) (l r w : List UInt8) (hw : w = cut r) (hl : w.length ≤ 1000) : ∃ q, (strconv_ParseUint.f (bs w, ((10 : Int), (64 : Int)))).bind (fun (x1 : (Int × Bool)) => (bif (!(!x1.2)) then (some ((0 : Int), (4 : Int))) else (((money_signed.f (x1.1, b))).bind fun (x2 : (Int × Int)) => (bif (x2.2 != (0 : Int)) then (some ((0 : Int), (4 : Int))) else (((money_Text.f x2.1)).bind fun (x3 : ByteArray) => (bif (!(decide (x3 = bs l))) then (some ((0 : Int), (4 : Int))) else (some (x2.1, (0 : Int))))))))) = some q ∧ Reads b l r q := by
  subst hw
  have hp : strconv_ParseUint.f (bs (cut r), (10, 64)) = some (parseU (cut r)) := by
    unfold strconv_ParseUint.f
    simp only [bs_list, bs_size]
    have h0 : (cut r).length ≤ 281474976710656 := by omega
    simp only [h0, decide_true, Bool.true_and, cond_true]
  rw [hp, Option.bind_some]
  unfold parseU Reads
  cases h : Lib.parseUintB 64 (cut r) with
  | «syntax» => exact ⟨(0, 4), rfl, .inl rfl, fun u h => by cases h⟩
  | range => exact ⟨(0, 4), rfl, .inl rfl, fun u h => by cases h⟩
  | ok u =>
    have hu := Lib.parseUintB_le h
    obtain ⟨q, h1, h2, h3⟩ := signed_is (u := u) (b := b) (by omega)
    simp only [Bool.not_false, Bool.not_true, cond_false]
    rw [h1, Option.bind_some]
    have hs : (bif b then -(u : Int) else (u : Int)) = sgn b u := rfl
    rw [hs] at h2 h3
    rcases h2 with h2 | ⟨ha, h2⟩
    · subst h2
      refine ⟨(0, 4), rfl, .inl rfl, fun u' e hA _ => ?_⟩
      injection e with e
      subst e
      have := h3 hA
      injection this with _ h
      cases h
    · subst h2
      have hz : ((0 : Int) != 0) = false := by decide
      simp only [hz, cond_false]
      rw [Text_is ha, Option.bind_some]
      by_cases ht : txt (sgn b u) = l
      · subst ht
        simp only [decide_true, Bool.not_true, cond_false]
        exact ⟨_, rfl, .inr ⟨_, ha, rfl, rfl⟩, fun u' e _ _ => by injection e with e; subst e; rfl⟩
      · have hn : decide (bs (txt (sgn b u)) = bs l) = false := by rw [decide_eq_false_iff_not, bs_inj]; exact ht
        rw [hn]
        refine ⟨(0, 4), rfl, .inl rfl, fun u' e _ h => ?_⟩
        injection e with e
        subst e
        exact absurd h ht
theorem Parse_is {l : List UInt8} (hl : l.length ≤ 1000) : ∃ q, money_Parse.f (bs l) = some q ∧ (if l.head? = some 45 then Reads true l (l.drop 1) q else Reads false l l q) := by
  have fin := fun b r w hw hl => tail_reads b l r w hw hl
  have b1 : ∀ k, k ≤ 3000 → Nat.ble k 9223372036854775807 = true := fun k h => Nat.ble_eq_true_of_le (by omega)
  unfold money_Parse.f
  simp only [bs_size, bs_extract, bs_append, bs_list, texts_eq, bs_inj]
  have dot : ∀ (r : List UInt8) (b : Bool), r.length ≤ 1000 → ∃ q, (bif decide ([46] = r) then
      (bif (true && (decide (((1 : Int) ≤ (r.length : Int))))) then (bif (Nat.ble (((r.take 0).drop 0).length + ((r.take r.length).drop 1).length) 9223372036854775807) then
        ((strconv_ParseUint.f (bs (((r.take 0).drop 0) ++ ((r.take r.length).drop 1)), ((10 : Int), (64 : Int)))).bind (fun (x1 : (Int × Bool)) => (bif (!(!x1.2)) then (some ((0 : Int), (4 : Int))) else (((money_signed.f (x1.1, b))).bind fun (x2 : (Int × Int)) => (bif (x2.2 != (0 : Int)) then (some ((0 : Int), (4 : Int))) else (((money_Text.f x2.1)).bind fun (x3 : ByteArray) => (bif (!(decide (x3 = bs l))) then (some ((0 : Int), (4 : Int))) else (some (x2.1, (0 : Int)))))))))) else none) else none)
      else (bif (decide (Lib.indexByte r 46 ≥ (0 : Int))) then (bif ((decide ((0 : Int) ≤ Lib.indexByte r 46)) && (decide (Lib.indexByte r 46 ≤ (r.length : Int)))) then
        (bif ((decide (((0 : Int) ≤ (IntKind.wrap .i64 (Lib.indexByte r 46 + (1 : Int)))))) && (decide (((IntKind.wrap .i64 (Lib.indexByte r 46 + (1 : Int))) ≤ (r.length : Int))))) then
          (bif (Nat.ble (((r.take (Int.toNat (Lib.indexByte r 46))).drop 0).length + ((r.take r.length).drop (Int.toNat (IntKind.wrap .i64 (Lib.indexByte r 46 + (1 : Int))))).length) 9223372036854775807) then
            ((strconv_ParseUint.f (bs (((r.take (Int.toNat (Lib.indexByte r 46))).drop 0) ++ ((r.take r.length).drop (Int.toNat (IntKind.wrap .i64 (Lib.indexByte r 46 + (1 : Int)))))), ((10 : Int), (64 : Int)))).bind (fun (x1 : (Int × Bool)) => (bif (!(!x1.2)) then (some ((0 : Int), (4 : Int))) else (((money_signed.f (x1.1, b))).bind fun (x2 : (Int × Int)) => (bif (x2.2 != (0 : Int)) then (some ((0 : Int), (4 : Int))) else (((money_Text.f x2.1)).bind fun (x3 : ByteArray) => (bif (!(decide (x3 = bs l))) then (some ((0 : Int), (4 : Int))) else (some (x2.1, (0 : Int)))))))))) else none) else none) else none)
        else (bif (Nat.ble (r.length + 0) 9223372036854775807) then ((strconv_ParseUint.f (bs (r ++ []), ((10 : Int), (64 : Int)))).bind (fun (x1 : (Int × Bool)) => (bif (!(!x1.2)) then (some ((0 : Int), (4 : Int))) else (((money_signed.f (x1.1, b))).bind fun (x2 : (Int × Int)) => (bif (x2.2 != (0 : Int)) then (some ((0 : Int), (4 : Int))) else (((money_Text.f x2.1)).bind fun (x3 : ByteArray) => (bif (!(decide (x3 = bs l))) then (some ((0 : Int), (4 : Int))) else (some (x2.1, (0 : Int)))))))))) else none))) = some q ∧ Reads b l r q := by
    intro r b hr
    by_cases hd : [46] = r
    · subst hd
      exact fin b [46] [] (by decide) (by simp)
    · rw [decide_eq_false hd, cond_false]
      have hi := indexByte_lt 46 r
      have hu : ∀ x : Int, 0 ≤ x → x < r.length → IntKind.wrap .i64 (x + 1) = x + 1 := fun x h1 h2 => wrap_i64 (by omega) (by omega)
      by_cases h0 : 0 ≤ Lib.indexByte r 46
      · have hc : cut r = r.take (Lib.indexByte r 46).toNat ++ r.drop ((Lib.indexByte r 46).toNat + 1) := by unfold cut; rw [if_pos h0]
        obtain ⟨x, hx⟩ : ∃ x, Lib.indexByte r 46 = x := ⟨_, rfl⟩
        rw [hx] at h0 hi hc ⊢
        have p2 : x ≤ (r.length : Int) := by omega
        have p3 : 0 ≤ x + 1 := by omega
        have p4 : x + 1 ≤ (r.length : Int) := by omega
        rw [hu x h0 hi]
        simp only [ge_iff_le, h0, p2, p3, p4, decide_true, Bool.and_self, cond_true]
        rw [b1 _ (by simp; omega), cond_true]
        refine fin b r _ ?_ ?_
        · rw [hc, List.drop_zero, List.take_length, show (x + 1).toNat = x.toNat + 1 by omega]
        · simp; omega
      · rw [decide_eq_false (show ¬ Lib.indexByte r 46 ≥ 0 from h0), cond_false, b1 _ (by omega), cond_true]
        refine fin b r _ ?_ ?_
        · unfold cut; rw [if_neg h0, List.append_nil]
        · simp; omega
  cases l with
  | nil => exact dot [] false (by simp)
  | cons c r =>
    have h1 : ((c :: r).length : Int) ≥ 1 := by rw [List.length_cons]; omega
    have h2 : (1 : Int) ≤ ((c :: r).length : Int) := h1
    simp only [h1, h2, decide_true, cond_true, Bool.true_and]
    by_cases hc : c = 45
    · subst hc
      simp only [List.head?_cons, if_true]
      have h3 : decide (List.drop 0 (List.take 1 (45 :: r)) = [45]) = true := by simp
      simp only [h3, Bool.not_true, cond_false]
      have := dot r true (by simp at hl; omega)
      simpa using this
    · have hq : ¬ some c = some (45 : UInt8) := by simpa using hc
      simp only [List.head?_cons, Option.some.injEq, hc, if_false]
      have h3 : decide (List.drop 0 (List.take 1 (c :: r)) = [45]) = false := by simp [hc]
      simp only [h3, Bool.not_false, cond_true]
      have := dot (c :: r) false hl
      simp only [h1, h2, decide_true, cond_true, Bool.true_and] at this
      exact this
end Go.Proofs.YtbjajidphaeogaaDoor
end
section
/- The Go function bursarlaw01.awake, as a Lean function, and that it is this one. Written by a program of this session. -/
set_option linter.unusedVariables false
set_option maxRecDepth 100000
namespace Go.Proofs.YtbjajidphaeogaaDoor
open Go Go.Fw
abbrev bursarlaw01_awake.row : Row := closedRow 19 (.b true)
theorem bursarlaw01_awake.row_ok : RowOK P G0 bursarlaw01_awake.row := closed_ok e0_ok (T := [strconv_FormatUint.row]) ⟨strconv_FormatUint.row_ok, trivial⟩ 60 (by kernel_rfl)
end Go.Proofs.YtbjajidphaeogaaDoor
end
section
/- The Go function bursarlaw01.MoneyTexts, as a Lean function, and that it is this one. Written by a program of this session. -/
set_option linter.unusedVariables false
set_option maxRecDepth 100000
namespace Go.Proofs.YtbjajidphaeogaaDoor
open Go Go.Fw
abbrev bursarlaw01_MoneyTexts.As : Shs := (.cons (.x (.i .i64)) (.cons (.x .s) .nil))
abbrev bursarlaw01_MoneyTexts.m : Back := [(false, .b)]
noncomputable abbrev bursarlaw01_MoneyTexts.H : HK := hk P G1 E0 [bursarlaw01_awake.row, money_Text.row, money_Parse.row, bursarref01_Parse.row, bursarref01_Text.row] noLoops 4
theorem bursarlaw01_MoneyTexts.hok : HKOK P bursarlaw01_MoneyTexts.H := hk_ok e0_ok (rows_ok (ws := [bursarlaw01_awake.row, money_Text.row, money_Parse.row, bursarref01_Parse.row, bursarref01_Text.row]) ⟨(bursarlaw01_awake.row_ok.more g01), ⟨(money_Text.row_ok.more g01), ⟨money_Parse.row_ok, ⟨(bursarref01_Parse.row_ok.more g01), ⟨(bursarref01_Text.row_ok.more g01), trivial⟩⟩⟩⟩⟩) (fun g n => noLoops_ok g n) 4
noncomputable def bursarlaw01_MoneyTexts.f (a : (Int × ByteArray)) : Option Bool := (bif (decide (((a.2.size : Int) > (60 : Int)))) then (bif (true && (decide (((60 : Int) ≤ (a.2.size : Int))))) then (((money_Text.f a.1)).bind fun (x2 : ByteArray) => (((money_Parse.f x2)).bind fun (x3 : (Int × Int)) => (((money_Parse.f (ByteArray.extract a.2 0 60))).bind fun (x4 : (Int × Int)) => (((bursarref01_Parse.f (ByteArray.extract a.2 0 60))).bind fun (x5 : (Int × Bool)) => (bif (!((x4.2 == (0 : Int)) == x5.2)) then (some false) else (bif (x4.2 != (0 : Int)) then (bif (x4.2 != (4 : Int)) then (some false) else (bif (x4.1 != (0 : Int)) then (some false) else (bif x5.2 then (bif (x4.1 != x5.1) then (some false) else (((bursarref01_Text.f a.1)).bind fun (x6 : ByteArray) => (bif ((ByteArray.toList x2) == (ByteArray.toList x6)) then (bif (x3.1 == a.1) then (bif (x3.2 == (0 : Int)) then (some true) else (some false)) else (some false)) else (some false)))) else (((bursarref01_Text.f a.1)).bind fun (x6 : ByteArray) => (bif ((ByteArray.toList x2) == (ByteArray.toList x6)) then (bif (x3.1 == a.1) then (bif (x3.2 == (0 : Int)) then (some true) else (some false)) else (some false)) else (some false)))))) else (bif x5.2 then (bif (x4.1 != x5.1) then (some false) else (((bursarref01_Text.f a.1)).bind fun (x6 : ByteArray) => (bif ((ByteArray.toList x2) == (ByteArray.toList x6)) then (bif (x3.1 == a.1) then (bif (x3.2 == (0 : Int)) then (some true) else (some false)) else (some false)) else (some false)))) else (((bursarref01_Text.f a.1)).bind fun (x6 : ByteArray) => (bif ((ByteArray.toList x2) == (ByteArray.toList x6)) then (bif (x3.1 == a.1) then (bif (x3.2 == (0 : Int)) then (some true) else (some false)) else (some false)) else (some false)))))))))) else none) else (((money_Text.f a.1)).bind fun (x2 : ByteArray) => (((money_Parse.f x2)).bind fun (x3 : (Int × Int)) => (((money_Parse.f a.2)).bind fun (x4 : (Int × Int)) => (((bursarref01_Parse.f a.2)).bind fun (x5 : (Int × Bool)) => (bif (!((x4.2 == (0 : Int)) == x5.2)) then (some false) else (bif (x4.2 != (0 : Int)) then (bif (x4.2 != (4 : Int)) then (some false) else (bif (x4.1 != (0 : Int)) then (some false) else (bif x5.2 then (bif (x4.1 != x5.1) then (some false) else (((bursarref01_Text.f a.1)).bind fun (x6 : ByteArray) => (bif ((ByteArray.toList x2) == (ByteArray.toList x6)) then (bif (x3.1 == a.1) then (bif (x3.2 == (0 : Int)) then (some true) else (some false)) else (some false)) else (some false)))) else (((bursarref01_Text.f a.1)).bind fun (x6 : ByteArray) => (bif ((ByteArray.toList x2) == (ByteArray.toList x6)) then (bif (x3.1 == a.1) then (bif (x3.2 == (0 : Int)) then (some true) else (some false)) else (some false)) else (some false)))))) else (bif x5.2 then (bif (x4.1 != x5.1) then (some false) else (((bursarref01_Text.f a.1)).bind fun (x6 : ByteArray) => (bif ((ByteArray.toList x2) == (ByteArray.toList x6)) then (bif (x3.1 == a.1) then (bif (x3.2 == (0 : Int)) then (some true) else (some false)) else (some false)) else (some false)))) else (((bursarref01_Text.f a.1)).bind fun (x6 : ByteArray) => (bif ((ByteArray.toList x2) == (ByteArray.toList x6)) then (bif (x3.1 == a.1) then (bif (x3.2 == (0 : Int)) then (some true) else (some false)) else (some false)) else (some false)))))))))))
theorem bursarlaw01_MoneyTexts.ok : ∀ a : Vals bursarlaw01_MoneyTexts.As.tys, fnK P bursarlaw01_MoneyTexts.H (lp []) 12 bursarlaw01_MoneyTexts.As bursarlaw01_MoneyTexts.m a some = bursarlaw01_MoneyTexts.f a := fun a => by kernel_rfl
noncomputable abbrev bursarlaw01_MoneyTexts.row : Row := fnRow 12 bursarlaw01_MoneyTexts.As bursarlaw01_MoneyTexts.m bursarlaw01_MoneyTexts.f
theorem bursarlaw01_MoneyTexts.row_ok : RowOK P G1 bursarlaw01_MoneyTexts.row := row_told bursarlaw01_MoneyTexts.hok (lp_of (l := []) trivial) (fun _ => rfl) bursarlaw01_MoneyTexts.ok
end Go.Proofs.YtbjajidphaeogaaDoor
end
section
/- Amounts and their texts: the law MoneyTexts. By this session. -/
set_option linter.unusedVariables false
set_option linter.unusedSimpArgs false
namespace Go.Proofs.YtbjajidphaeogaaDoor
open Go Go.Fw
theorem pr_dig {d : Nat} {t : List UInt8} {acc : Int} (hd : d < 10) (h1 : -9223372036854775808 ≤ 10 * acc - d) : pr (dgt d :: t) acc = pr t (10 * acc - d) := by
  have hn := dgt_nat hd
  conv => lhs; unfold pr
  simp only [hn]
  rw [if_neg (by omega), if_neg (by omega), if_neg (by omega)]
  congr 1
  omega
theorem pr_decP : ∀ (k n : Nat) (t : List UInt8), n < 10 ^ k → n ≤ 9223372036854775 → pr (decP k n ++ t) 0 = pr t (-(n : Int))
  | 0, n, t, h, _ => by
    have : n = 0 := by simpa using h
    subst this; rfl
  | k + 1, n, t, h, h2 => by
    unfold decP
    split
    · rename_i h0; subst h0; rfl
    · rw [List.append_assoc, pr_decP k (n / 10) _ (by have : 10 ^ (k + 1) = 10 ^ k * 10 := Nat.pow_succ ..; omega) (by omega), List.singleton_append, pr_dig (by omega) (by omega)]
      congr 1
      omega
theorem pr_body {n : Nat} (hn : n ≤ 9223372036854775808) : pr (body n) 0 = some (-(n : Int)) := by
  unfold body
  rw [pr_decP 19 (n / 1000) _ (by omega) (by omega), pr_dig (by omega) (by omega)]
  conv => lhs; unfold pr
  rw [if_pos ⟨rfl, rfl⟩, pr_dig (by omega) (by omega), pr_dig (by omega) (by omega)]
  show some _ = some _
  congr 1
  omega
theorem body_dig (n : Nat) : ∀ c, c ∈ decP 19 (n / 1000) ++ [dgt (n / 100 % 10)] → 48 ≤ c.toNat ∧ c.toNat ≤ 57 := by
  intro c h
  rcases List.mem_append.1 h with h | h
  · exact decP_dig _ _ _ h
  · rw [List.mem_singleton.1 h, dgt_nat (by omega)]; omega
theorem body_cut (n : Nat) : cut (body n) = decP 19 (n / 1000) ++ [dgt (n / 100 % 10), dgt (n / 10 % 10), dgt (n % 10)] := by
  have hd := body_dig n
  have e : body n = (decP 19 (n / 1000) ++ [dgt (n / 100 % 10)]) ++ 46 :: [dgt (n / 10 % 10), dgt (n % 10)] := by unfold body; simp
  obtain ⟨l, hl⟩ : ∃ l, decP 19 (n / 1000) ++ [dgt (n / 100 % 10)] = l := ⟨_, rfl⟩
  rw [hl] at hd e
  have hi := indexByte_skip 46 l [dgt (n / 10 % 10), dgt (n % 10)] fun x hx h => by
    have := hd x hx
    rw [h] at this
    exact absurd this (by decide)
  unfold cut
  rw [e, hi, if_pos (by omega), Int.toNat_natCast, List.take_left' rfl, ← List.drop_drop, List.drop_left' rfl, ← hl]
  simp
theorem body_parse {n : Nat} (hn : n ≤ 9223372036854775808) : Lib.parseUintB 64 (cut (body n)) = .ok n := by
  rw [body_cut]
  unfold Lib.parseUintB
  rw [if_neg (by simp), parse_decP _ 19 (n / 1000) _ (by omega) (by omega) (by omega), parse_dig (by omega) (by omega) (by omega), parse_dig (by omega) (by omega) (by omega), parse_dig (by omega) (by omega) (by omega)]
  show Lib.NumEnd.ok _ = _
  congr 1
  omega
theorem body_head (n : Nat) : ¬ (body n).head? = some 45 := by
  intro h
  have hd := body_dig n
  have e : body n = (decP 19 (n / 1000) ++ [dgt (n / 100 % 10)]) ++ 46 :: [dgt (n / 10 % 10), dgt (n % 10)] := by unfold body; simp
  cases hl : decP 19 (n / 1000) ++ [dgt (n / 100 % 10)] with
  | nil => simp at hl
  | cons c r =>
    rw [e, hl] at h
    have := hd c (by rw [hl]; exact List.mem_cons_self ..)
    simp at h
    rw [h] at this
    exact absurd this (by decide)
theorem refParse_txt {a : Int} (ha : Am a) : refParse (txt a) = (a, true) := by
  obtain ⟨h1, h2⟩ := ha
  unfold refParse
  by_cases h : a < 0
  · have e : txt a = 45 :: body a.natAbs := by unfold txt; rw [if_pos h]; rfl
    rw [e, if_pos (by rfl)]
    unfold refRead
    rw [List.drop_one, List.tail_cons, pr_body (by omega), show -(a.natAbs : Int) = a by omega]
    simp [e]
  · have e : txt a = body a.natAbs := by unfold txt; rw [if_neg h]; rfl
    rw [e, if_neg (body_head _)]
    unfold refRead
    rw [pr_body (by omega), show -(a.natAbs : Int) = -a by omega]
    simp only [Bool.false_eq_true, if_false]
    rw [if_neg (by omega), Int.neg_neg, e]
    simp
theorem refParse_only {l : List UInt8} (h : (refParse l).2 = true) : ∃ v, Am v ∧ txt v = l ∧ refParse l = (v, true) := by
  have z : Neg 0 := ⟨by omega, by omega⟩
  have key : ∀ b r, (refRead b l r).2 = true → ∃ v, Am v ∧ txt v = l ∧ refRead b l r = (v, true) := by
    intro b r h
    unfold refRead at h ⊢
    cases hp : pr r 0 with
    | none => rw [hp] at h; cases h
    | some v =>
      rw [hp] at h
      obtain ⟨v1, v2⟩ := pr_neg _ _ _ z hp
      cases b
      · simp only [Bool.false_eq_true, if_false] at h ⊢
        split at h
        · cases h
        · rename_i k
          rw [if_neg k]
          have ht : txt (-v) = l := by simpa using h
          exact ⟨-v, ⟨by omega, by omega⟩, ht, by simp [ht]⟩
      · simp only [if_true] at h ⊢
        have ht : txt v = l := by simpa using h
        exact ⟨v, ⟨by omega, by omega⟩, ht, by simp [ht]⟩
  unfold refParse at h ⊢
  split at h
  · rename_i k; rw [if_pos k]; exact key _ _ h
  · rename_i k; rw [if_neg k]; exact key _ _ h
theorem Parse_law {l : List UInt8} (hl : l.length ≤ 1000) : ∃ q, money_Parse.f (bs l) = some q ∧ (q = (0, 4) ∨ ∃ v, Am v ∧ txt v = l ∧ q = (v, 0)) ∧ ∀ v, Am v → txt v = l → q = (v, 0) := by
  obtain ⟨q, h1, h2⟩ := Parse_is hl
  refine ⟨q, h1, ?_, ?_⟩
  · split at h2 <;> exact h2.1
  · intro v hv ht
    subst ht
    obtain ⟨v1, v2⟩ := hv
    by_cases h : v < 0
    · have e : txt v = 45 :: body v.natAbs := by unfold txt; rw [if_pos h]; rfl
      rw [if_pos (by rw [e]; rfl)] at h2
      have e2 : sgn true v.natAbs = v := by show -(v.natAbs : Int) = v; omega
      have := h2.2 v.natAbs (by rw [e, List.drop_one, List.tail_cons, body_parse (by omega)])
      rw [e2] at this
      exact this ⟨v1, v2⟩ rfl
    · have e : txt v = body v.natAbs := by unfold txt; rw [if_neg h]; rfl
      rw [if_neg (by rw [e]; exact body_head _)] at h2
      have e2 : sgn false v.natAbs = v := by show (v.natAbs : Int) = v; omega
      have := h2.2 v.natAbs (by rw [e, body_parse (by omega)])
      rw [e2] at this
      exact this ⟨v1, v2⟩ rfl
theorem MoneyTexts_is {a : Int} {s : ByteArray} (ha : Am a) : bursarlaw01_MoneyTexts.f (a, s) = some true := by
  have core : ∀ l : List UInt8, l.length ≤ 60 → ((money_Text.f a)).bind (fun (x2 : ByteArray) => (((money_Parse.f x2)).bind fun (x3 : (Int × Int)) => (((money_Parse.f (bs l))).bind fun (x4 : (Int × Int)) => (((bursarref01_Parse.f (bs l))).bind fun (x5 : (Int × Bool)) => (bif (!((x4.2 == (0 : Int)) == x5.2)) then (some false) else (bif (x4.2 != (0 : Int)) then (bif (x4.2 != (4 : Int)) then (some false) else (bif (x4.1 != (0 : Int)) then (some false) else (bif x5.2 then (bif (x4.1 != x5.1) then (some false) else (((bursarref01_Text.f a)).bind fun (x6 : ByteArray) => (bif (decide (x2 = x6)) then (bif (x3.1 == a) then (bif (x3.2 == (0 : Int)) then (some true) else (some false)) else (some false)) else (some false)))) else (((bursarref01_Text.f a)).bind fun (x6 : ByteArray) => (bif (decide (x2 = x6)) then (bif (x3.1 == a) then (bif (x3.2 == (0 : Int)) then (some true) else (some false)) else (some false)) else (some false)))))) else (bif x5.2 then (bif (x4.1 != x5.1) then (some false) else (((bursarref01_Text.f a)).bind fun (x6 : ByteArray) => (bif (decide (x2 = x6)) then (bif (x3.1 == a) then (bif (x3.2 == (0 : Int)) then (some true) else (some false)) else (some false)) else (some false)))) else (((bursarref01_Text.f a)).bind fun (x6 : ByteArray) => (bif (decide (x2 = x6)) then (bif (x3.1 == a) then (bif (x3.2 == (0 : Int)) then (some true) else (some false)) else (some false)) else (some false))))))))) ) = some true := by
    intro l hl
    obtain ⟨q, p1, p2, p3⟩ := Parse_law (l := l) (by omega)
    obtain ⟨q', r1, r2, r3⟩ := Parse_law (l := txt a) (by have := txt_len a; omega)
    have hq' := r3 a ha rfl
    subst hq'
    rw [Text_is ha, Option.bind_some, r1, Option.bind_some, p1, Option.bind_some, ref_Parse_is (by omega), Option.bind_some, ref_Text_is ha]
    simp only [Option.bind_some, decide_true, cond_true, beq_self_eq_true]
    rcases p2 with p2 | ⟨v, hv, ht, p2⟩
    · subst p2
      have hf : (refParse l).2 = false := by
        cases h : (refParse l).2
        · rfl
        · obtain ⟨v, hv, ht, _⟩ := refParse_only h
          have := p3 v hv ht
          injection this with _ h
          cases h
      rw [hf]
      rfl
    · subst p2
      have hr : refParse l = (v, true) := by rw [← ht]; exact refParse_txt hv
      rw [hr]
      simp
  unfold bursarlaw01_MoneyTexts.f
  rw [eq_bs s]
  obtain ⟨l, hl⟩ : ∃ l, s.data.toList = l := ⟨_, rfl⟩
  rw [hl]
  simp only [bs_size, bs_extract, texts_eq]
  by_cases h : (l.length : Int) > 60
  · have h2 : (60 : Int) ≤ (l.length : Int) := by omega
    simp only [h, h2, decide_true, cond_true, Bool.true_and]
    exact core _ (by simp; omega)
  · simp only [h, decide_false, cond_false]
    exact core _ (by omega)
end Go.Proofs.YtbjajidphaeogaaDoor
end
section
/- every amount has a text that is parsed as it was. -/
set_option linter.unusedVariables false
set_option linter.unusedSimpArgs false
namespace Go.Proofs.YtbjajidphaeogaaDoor.moneyTexts
open Go Go.Fw Go.ChangeShapes Go.WideShapes Go.ChangeAt Go.RowKit
theorem own : ownKnob Tryd.prog.godebug = none := by kernel_rfl
theorem laidOut : laidOutB Tryd.prog = true := by kernel_rfl
/-- The door's own heap meets the condition. -/
theorem door_met (os : Os) (args : Array Value) : laidMetH Tryd.prog Rows.moneyTextsRow.laid ((World.doorLaid Tryd.prog 400 os).forCall (fun _ _ => 0) ⟨#[], args, []⟩).memory :=
  laidMetH_of_parts3 (fuel := 8) (laidMet_of_run' 8 (by kernel_rfl) (by kernel_rfl)) (by kernel_rfl) (by kernel_rfl)
theorem told {W : World} (h : laidMetH Tryd.prog Rows.moneyTextsRow.laid W) : Glob ⟨W, fun b => b < W.heap.size, fun _ => False, fun _ => 0, fun _ => 0, G1⟩ := by
  rw [MakeChecks.laidMetH_plain _ _ _ (by kernel_rfl)] at h
  have f0 := globAt_tab (P := Tryd.prog) (g := 0) (k := .u64) (zs := [1, 10, 100, 1000, 10000, 100000, 1000000, 10000000, 100000000, 1000000000, 10000000000, 100000000000, 1000000000000, 10000000000000, 100000000000000, 1000000000000000, 10000000000000000, 100000000000000000, 1000000000000000000, 10000000000000000000]) (by kernel_rfl) (Lib.tabIs_of_head (g := 0) (by kernel_rfl) (by kernel_rfl) Tryd.underlying177 Tryd.underlying89 (by kernel_rfl) (by kernel_rfl) (laidMet.tail (laidMet.tail h)))
  have f3 := globAt_err (P := Tryd.prog) (g := 3) (by kernel_rfl) (laid_err (g := 3) (laidMet.tail (laidMet.tail (laidMet.tail h))) (by kernel_rfl) (by kernel_rfl) Tryd.underlying114)
  have f2 := globAt_err (P := Tryd.prog) (g := 2) (by kernel_rfl) (laid_err (g := 2) (laidMet.tail (laidMet.tail (laidMet.tail (laidMet.tail h)))) (by kernel_rfl) (by kernel_rfl) Tryd.underlying114)
  exact (glob_cons f0 (glob_cons f2 (glob_cons f3 glob_none')))
set_option maxRecDepth 100000 in
theorem lifted (os : Os) (started : os.Started) (H : Type) (enc : TypeId × Value → H) :
    ReturnsInHanded {} Tryd.checked os 12 .any (fun w args => (Rows.moneyTextsSpec.pre enc Tryd.prog Tryd.f12 [] false w args ∧ laidMetH Tryd.prog Rows.moneyTextsRow.laid w) ∧ sizedMet enc Tryd.prog Tryd.f12 (OpenSpec.ofChange Rows.moneyTextsSpec) false w args)
      (Rows.moneyTextsSpec.post enc Tryd.prog Tryd.f12 false true false false) := by
  refine returnsInHanded_of_change_and (C := Tryd.checked) (X := fun w _ => laidMetH Tryd.prog Rows.moneyTextsRow.laid w) (fun _ _ _ hh h => h.of_heap hh) own started (by kernel_rfl) Tryd.func12
    (ChangeSpec.witness_shaped (enc := enc) (C := Tryd.checked) (os := os) (X := fun w _ => laidMetH Tryd.prog Rows.moneyTextsRow.laid w) false (World.doorLaid Tryd.prog 400 os) #[.int .i64 0, .string ByteArray.empty] 8 rfl (World.shaped_of_RefB (by kernel_rfl) (by kernel_rfl)) (by kernel_rfl) (by kernel_rfl) (by kernel_rfl) (door_met os _)) ?_
  intro W base args ds gs before hval hW _ _ hL _
  exact law_call (P := Tryd.prog) (g := 12) (tb := Tryd.f12.resultTypes.getD 0 0) laidOut bursarlaw01_MoneyTexts.row_ok (told hL) (by kernel_rfl) (fun a => by kernel_rfl) (by kernel_rfl) (by kernel_rfl) rfl
    (fun ds h => match ds, h with | [_, _], _ => ⟨rfl, rfl, rfl⟩) (fun a ha => MoneyTexts_is (bounds_i64 ha.1)) hval hW
set_option maxRecDepth 100000 in
theorem over : Rows.moneyTextsRow.holds Tryd.pinned (OpenSpec.ofChange Rows.moneyTextsSpec) :=
  OpenClaim.holds_of_wide 12 Tryd.f12 rfl rfl rfl rfl rfl rfl rfl ⟨rfl, rfl, rfl, rfl, rfl⟩ rfl rfl rfl rfl rfl (by kernel_rfl) Tryd.func12 (by kernel_rfl)
    (of_decide_eq_true (by kernel_rfl)) (by unfold Func.isWrapper; first | (rw [if_pos (by decide +kernel)]; kernel_rfl) | (rw [if_neg (by decide +kernel)]; exact ⟨rfl, rfl⟩))
    (fun os started H enc _ => lifted os started H enc)
theorem plainParams : (Tryd.f12.params.toList.all fun t => !(Tryd.prog.wantsStandIn t)) = true := by kernel_rfl
theorem card : Rows.MoneyTextsCardSaid :=
  Claim7.holds_tied_plain_at .later [] [.data, .data, .data, .sentinel, .sentinel] true (true, "f731de008941817ed7b362de19589baba67c7bb3ef52ee2c4bb9631146d14688") true
    over (fun _ h => by cases h) (by kernel_rfl) (fun _ h => by cases h) moneyTexts_row_tie rfl ⟨rfl, rfl⟩ (by kernel_rfl) rfl
    (fun f fn hf hfn => by
      obtain rfl : f = 12 := Option.some.inj ((show Tryd.prog.funcNamed "bursar/bursarlaw01.MoneyTexts" = some 12 by kernel_rfl).symm.trans hf) |>.symm
      obtain rfl : fn = Tryd.f12 := (Option.some.inj (Tryd.func12.symm.trans hfn)).symm
      exact ⟨by kernel_rfl, fun j t ht => by
        have h := List.all_eq_true.1 plainParams t (by rw [← Array.getElem?_toList] at ht; exact List.mem_of_getElem? ht)
        exact (show Tryd.prog.wantsStandIn t = false by simpa using h)⟩)
    (by kernel_rfl)
end Go.Proofs.YtbjajidphaeogaaDoor.moneyTexts
namespace Go.Proofs.YtbjajidphaeogaaDoor
/-- The given statement. -/
theorem moneyTexts_holds : Rows.MoneyTextsCardSaid := moneyTexts.card
#print axioms moneyTexts_holds
end Go.Proofs.YtbjajidphaeogaaDoor
end
