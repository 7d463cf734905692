/- Two texts of a field are packed the same just if they are the same; no packed one is the beginning of another one. -/
import Derived.WalkKit
import Derived.ProofKit
import Derived.OpenShut
import Derived.ShutString
import Derived.ChangeOld
import Derived.Carry
import Derived.Below
import Derived.SizedLaws
import Derived.Laws.Strings
import Derived.Lib.Bytealg
import Derived.Lib.ParseIntB
import Derived.Lib.ItoaNum
import Derived.Test.YtiifdejnmaohlaaDoorProg
import Derived.KernelRfl
import Derived.Laws.Externs
import Derived.Deep.Draws
import Derived.Shelf.Strconv.ErrVarAll
import Derived.Shelf.Strings.Fields
import Derived.Shelf.LaysM
import Derived.Shelf.Strconv.Itoa3
import Derived.Test.YtiifdejnmaohlaaDoorRows
import Derived.Test.YtiifdejnmaohlaaDoorCards
import Derived.Test.YtiifdejnmaohlaaDoorTie
import Derived.SevenTiedAt
import Derived.LaidMore
import Derived.Lay
import Derived.MakeChecks
import Derived.Test.YtiifdejnmaohlaaDoorW3
section
/- A law's call, from its arguments as they may be read: it returns true, and what was handed in reads as it did. By this session. -/
set_option linter.unusedVariables false
set_option linter.unusedSimpArgs false
namespace Go.Fw
open Go.ChangeShapes Go.WideShapes Go.ChangeAt Go.RowKit
/-- are these types of the program these of plain data? -/
def okTys (P : Program) : List TypeId → List Ty → Bool
  | [], [] => true
  | t :: ts, T :: Ts => okTy P 40 t T && (P.readableRec t && (decide (t < P.types.size) && okTys P ts Ts))
  | _, _ => false
def FitAll : (Ts : List Ty) → Vals Ts → Prop
  | [], _ => True
  | [T], x => T.fit x
  | T :: T' :: Ts, x => T.fit x.1 ∧ FitAll (T' :: Ts) x.2
section
variable {P : Program} {H : Type} {enc : TypeId × Value → H} {W : World} {base : Nat}
theorem read_all : ∀ {ts : List TypeId} {Ts : List Ty} {vs : List Value} {ds : List (DataW H)} {ps : List MemPlace}, okTys P ts Ts = true → DataW.TrodAll enc P W 0 (fun _ => true) true ts vs ds ps →
    (∀ (j : Nat) t v, ts[j]? = some t → vs[j]? = some v → Value.okWide P W .any base t v) →
    ∃ a : Vals Ts, FitAll Ts a ∧ ds.length = ts.length ∧ vs.length = (elts Ts a).length ∧ (∀ (j : Nat) (d : D), (elts Ts a)[j]? = some d → ∃ v, vs[j]? = some v ∧ RelD W (fun b => b < W.heap.size) d v)
  | [], [], vs, ds, ps, hk, h, hv => by
    obtain ⟨rfl, rfl, rfl⟩ := trodAll_nil h
    exact ⟨(), trivial, rfl, rfl, fun j d hd => by simp [elts] at hd⟩
  | [], _ :: _, vs, ds, ps, hk, h, hv => by simp [okTys] at hk
  | _ :: _, [], vs, ds, ps, hk, h, hv => by simp [okTys] at hk
  | t :: ts, T :: Ts, vs, ds, ps, hk, h, hv => by
    simp only [okTys, Bool.and_eq_true] at hk
    obtain ⟨hk, _, _, hks⟩ := hk
    obtain ⟨v, vs', d, ds', p, q, rfl, rfl, rfl, h0, h1⟩ := trodAll_cons h
    obtain ⟨y, hy, hr⟩ := read_arg hk (hv 0 t v rfl rfl) h0
    obtain ⟨a, ha, hl, hls, hrs⟩ := read_all hks h1 fun j t v ht hj => hv (j + 1) t v ht hj
    cases Ts with
    | nil =>
      cases ts with
      | cons => simp [okTys] at hks
      | nil =>
        obtain ⟨rfl, rfl, rfl⟩ := trodAll_nil h1
        refine ⟨y, hy, rfl, rfl, fun j d hd => ?_⟩
        cases j with
        | zero => simp [elts] at hd; subst hd; exact ⟨v, rfl, hr⟩
        | succ j => simp [elts] at hd
    | cons T' Ts =>
      refine ⟨(y, a), ⟨hy, ha⟩, by simp [hl], by simp [elts, hls], fun j d hd => ?_⟩
      cases j with
      | zero => simp [elts] at hd; subst hd; exact ⟨v, rfl, hr⟩
      | succ j => simp only [elts, List.getElem?_cons_succ] at hd; exact hrs j d hd
theorem trod_back (hl : laidOutB P = true) {W' : World} (hb : Below W.heap.size W W') : ∀ {ts : List TypeId} {Ts : List Ty} {vs : List Value} {ds : List (DataW H)} {ps : List MemPlace}, okTys P ts Ts = true → DataW.TrodAll enc P W 0 (fun _ => true) true ts vs ds ps →
    DataW.TrodAll enc P W' 0 (fun b => decide (b < W.heap.size)) true ts vs ds ps
  | [], [], vs, ds, ps, hk, h => by
    obtain ⟨rfl, rfl, rfl⟩ := trodAll_nil h
    exact trodAll_mk0
  | [], _ :: _, vs, ds, ps, hk, h => by simp [okTys] at hk
  | _ :: _, [], vs, ds, ps, hk, h => by simp [okTys] at hk
  | t :: ts, T :: Ts, vs, ds, ps, hk, h => by
    simp only [okTys, Bool.and_eq_true, decide_eq_true_eq] at hk
    obtain ⟨hk, hrr, hsz, hks⟩ := hk
    obtain ⟨v, vs', d, ds', p, q, rfl, rfl, rfl, h0, h1⟩ := trodAll_cons h
    have lt : ∀ x ∈ p, x.block < W.heap.size := by
      obtain ⟨m, hm⟩ := h0
      exact DataW.trod_lt m _ _ _ hm
    exact trodAll_cons_mk (Below.trod hl hrr hsz h0 hb lt) (trod_back hl hb hks h1)
/-- a law's call -/
theorem law_call {G : Nat → Option (List D)} {fn : Func} {g : FuncId} {As : Shs} {F : Vals As.tys → Option Bool} {s : ChangeSpec} {tb : TypeId} (hl : laidOutB P = true)
    (hok : RowOK P G (fnRow g As [(false, .b)] F)) (hgl : Glob ⟨W, fun b => b < W.heap.size, fun _ => False, fun _ => 0, fun _ => 0, G⟩) (hty : okTys P fn.params.toList As.tys = true) (hdec : ∀ a : Vals As.tys, decArgs As (elts As.tys a) = some a)
    (hres : fn.resultTypes = #[tb]) (htb : P.underlying tb = some .bool) (hvars : s.vars = []) (hspec : ∀ ds : List (DataW H), ds.length = fn.params.toList.length → (s.fn H ds).results = [.lit (.bool true)] ∧ (s.fn H ds).args = ds ∧ (s.fn H ds).vars = [])
    (hlaw : ∀ a : Vals As.tys, FitAll As.tys a → F a = some true)
    {args : Array Value} {ds gs : List (DataW H)} {before : List MemPlace} (hval : ∀ (j : Nat) t v, fn.params[j]? = some t → args[j]? = some v → Value.okWide P W .any base t v)
    (hW : DataW.Whole enc P fn.params.toList s.vars false W args.toList ds gs before) :
    Calls P g args W fun e W' => ∃ v, e = .returned v ∧ s.post enc P fn false true false false W args v W' := by
  have hW' := hW
  obtain ⟨p, q, hA, hV, rfl, hfz, hnd⟩ := hW
  obtain ⟨a, ha, hdl, hvl, hr⟩ := read_all hty hA fun j t v ht hv => hval j t v (by rw [← Array.getElem?_toList]; exact ht) (by rw [← Array.getElem?_toList]; exact hv)
  rw [hvars] at hV
  obtain ⟨rfl, rfl⟩ := trodVars_none hV
  have call := (hok _ a true (hdec a) (hlaw a ha)).2
  refine (top_call (W := W) (vs := args) call hgl (by rw [← Array.length_toList]; exact hvl) (fun j d hd => ?_)).mono ?_
  · obtain ⟨v, hv, hrel⟩ := hr j d hd
    rw [Array.getElem?_toList] at hv
    rw [Array.getD_eq_getD_getElem?, hv]
    exact hrel
  · rintro e W' ⟨⟨v, I', rfl, hx⟩, bel⟩
    have hv : v = .bool true := by
      have hx' : RelX W' I' (fun _ => False) (.b true) v := hx
      cases hx'; rfl
    subst hv
    obtain ⟨s1, s2, s3⟩ := hspec (ds ++ []) (by rw [List.append_nil]; exact hdl)
    refine ⟨_, rfl, ds, [], p ++ [], [], p, [], hW', ?_, ?_, ?_, bel.frame _, fun h => by cases h⟩
    · rw [s1, hres]
      exact trodAll_mk1 (shut_bool htb _)
    · rw [s2, List.append_nil]
      exact trod_back hl bel hty hA
    · rw [s3, hvars]; rfl
end
end Go.Fw
end
section
/- Loops as rounds, texts and numbers: plain laws. By this session. -/
set_option linter.unusedVariables false
set_option linter.unusedSimpArgs false
namespace Go.Fw
theorem wrap_i64 {n : Int} (h1 : -9223372036854775808 ≤ n) (h2 : n ≤ 9223372036854775807) : IntKind.wrap .i64 n = n := by rw [IntKind.wrap_i64]; omega
theorem wrap_u64 (n : Int) : IntKind.wrap .u64 n = n % 18446744073709551616 := by
  show (if (false && decide (n % 18446744073709551616 ≥ 9223372036854775808)) = true then n % 18446744073709551616 - 18446744073709551616 else n % 18446744073709551616) = _
  simp
theorem wrap_u8 (n : Int) : IntKind.wrap .u8 n = n % 256 := by
  show (if (false && decide (n % 256 ≥ 128)) = true then n % 256 - 256 else n % 256) = _
  simp
theorem wrap_up {n : Nat} (h : n < 9223372036854775807) : IntKind.wrap .i64 ((n : Int) + 1) = ((n + 1 : Nat) : Int) := by rw [wrap_i64 (by omega) (by omega)]; omega
theorem bt_bound (s : ByteArray) (i : Nat) : 0 ≤ bt s i ∧ bt s i ≤ 255 := by
  unfold bt
  have := (s.data.toList.getD i 0).toNat_lt
  omega
section
variable {S R : Type} {t : S → Option (S ⊕ R)}
theorem rounds_end {s : S} {r : R} (h : t s = some (.inr r)) : rounds t s = some r := by rw [rounds_eq, h]
theorem rounds_next {s s' : S} (h : t s = some (.inl s')) : rounds t s = rounds t s' := by rw [rounds_eq, h]
theorem rounds_to (st : Nat → S) (n : Nat) (h : ∀ i, i < n → t (st i) = some (.inl (st (i + 1)))) : rounds t (st 0) = rounds t (st n) := by
  induction n with
  | zero => rfl
  | succ n ih => rw [ih fun i hi => h i (by omega), rounds_next (h n (by omega))]
/-- rounds that go on while it is so -/
theorem rounds_all (st : Nat → S) (p : Nat → Bool) (out fin : R) (n : Nat) (h : ∀ i, i < n → t (st i) = some (bif p i then .inl (st (i + 1)) else .inr out)) (hf : t (st n) = some (.inr fin)) :
    rounds t (st 0) = some (bif (List.range n).all p then fin else out) := by
  have go : ∀ k, k ≤ n → rounds t (st 0) = bif (List.range k).all p then rounds t (st k) else some out := by
    intro k
    induction k with
    | zero => intro _; rfl
    | succ k ih =>
      intro hk
      rw [ih (by omega), List.range_succ, List.all_append]
      cases (List.range k).all p with
      | false => rfl
      | true =>
        have h1 := h k (by omega)
        cases hp : p k with
        | false => rw [hp] at h1; simp [hp, rounds_end h1]
        | true => rw [hp] at h1; simp [hp, rounds_next h1]
  rw [go n (Nat.le_refl _), rounds_end hf]
  cases (List.range n).all p <;> rfl
end
/-- sums of so many -/
def sumTo (f : Nat → Int) : Nat → Int
  | 0 => 0
  | n + 1 => sumTo f n + f n
theorem sumTo_back (f : Nat → Int) : ∀ n, sumTo (fun j => f (n - 1 - j)) n = sumTo f n := by
  have first : ∀ (g : Nat → Int) (n : Nat), sumTo g (n + 1) = g 0 + sumTo (fun j => g (j + 1)) n := by
    intro g n
    induction n with
    | zero => simp [sumTo]
    | succ n ih => rw [sumTo, ih, sumTo]; omega
  have same : ∀ (g h : Nat → Int) (n : Nat), (∀ j, j < n → g j = h j) → sumTo g n = sumTo h n := by
    intro g h n
    induction n with
    | zero => intro _; rfl
    | succ n ih => intro hh; rw [sumTo, sumTo, ih fun j hj => hh j (by omega), hh n (by omega)]
  intro n
  induction n with
  | zero => rfl
  | succ n ih =>
    rw [first, sumTo, ← ih, same (fun j => f (n + 1 - 1 - (j + 1))) (fun j => f (n - 1 - j)) n fun j hj => by
      have : n + 1 - 1 - (j + 1) = n - 1 - j := by omega
      simp only [this]]
    simp only [Nat.add_sub_cancel, Nat.sub_zero]
    omega
theorem sumTo_bound {f : Nat → Int} {b : Int} : ∀ {n : Nat}, (∀ j, j < n → 0 ≤ f j ∧ f j ≤ b) → 0 ≤ sumTo f n ∧ sumTo f n ≤ b * n
  | 0, _ => by simp [sumTo]
  | n + 1, h => by
    have ih := sumTo_bound (f := f) (b := b) (n := n) fun j hj => h j (by omega)
    have := h n (by omega)
    have e : b * ((n + 1 : Nat) : Int) = b * n + b := by rw [Int.natCast_add, Int.mul_add]; simp
    rw [sumTo, e]
    omega
theorem sumTo_same {g h : Nat → Int} : ∀ {n : Nat}, (∀ j, j < n → g j = h j) → sumTo g n = sumTo h n
  | 0, _ => rfl
  | n + 1, hh => by rw [sumTo, sumTo, sumTo_same fun j hj => hh j (by omega), hh n (by omega)]
/-! ### lists -/
theorem getD_at {α : Type} {l : List α} {i : Nat} {d : α} (h : i < l.length) : l.getD i d = l[i] := by simp [List.getD_eq_getElem?_getD, List.getElem?_eq_getElem h]
theorem take_up {α : Type} {l : List α} {i : Nat} (d : α) (h : i < l.length) : l.take (i + 1) = l.take i ++ [l.getD i d] := by
  rw [List.take_succ_eq_append_getElem h, getD_at h]
theorem range_all {α : Type} (p : α → Bool) (d : α) (l : List α) : ((List.range l.length).all fun i => p (l.getD i d)) = l.all p := by
  rw [Bool.eq_iff_iff, List.all_eq_true, List.all_eq_true]
  constructor
  · intro h x hx
    obtain ⟨i, hi, rfl⟩ := List.getElem_of_mem hx
    have := h i (List.mem_range.2 hi)
    rwa [getD_at hi] at this
  · intro h i hi
    have hi := List.mem_range.1 hi
    rw [getD_at hi]
    exact h _ (List.getElem_mem hi)
/-- is there room for one more? -/
theorem room {n m : Nat} (w k : Nat) (h : n ≤ m) (hw : (m + 1) * w ≤ k) : Nat.ble ((n + 1) * w) k = true := Nat.ble_eq_true_of_le (Nat.le_trans (Nat.mul_le_mul_right w (by omega)) hw)
end Go.Fw
end
section
/- Texts as lists of octets; digits of numbers. By this session. -/
set_option linter.unusedVariables false
set_option linter.unusedSimpArgs false
namespace Go.Fw
open Go
theorem eq_bs (s : ByteArray) : s = bs s.data.toList := by cases s; simp [bs]
theorem bs_data (l : List UInt8) : (bs l).data = l.toArray := rfl
theorem bs_list (l : List UInt8) : (bs l).data.toList = l := by simp [bs]
theorem bs_toList (l : List UInt8) : (bs l).toList = l := by rw [ByteArray.toList_eq, bs_list]
theorem bs_size (l : List UInt8) : (bs l).size = l.length := by show (bs l).data.size = _; simp [bs]
theorem bs_append (l r : List UInt8) : bs l ++ bs r = bs (l ++ r) := by
  apply ByteArray.ext
  rw [ByteArray.data_append]
  simp [bs]
theorem bs_extract (l : List UInt8) (i j : Nat) : (bs l).extract i j = bs ((l.take j).drop i) := by
  apply ByteArray.ext
  rw [ByteArray.data_extract]
  apply Array.toList_inj.1
  simp [bs, List.extract_eq_take_drop, List.drop_take]
theorem bt_bs (l : List UInt8) (i : Nat) : bt (bs l) i = ((l.getD i 0).toNat : Int) := by unfold bt; rw [bs_list]
theorem bs_inj {l r : List UInt8} : bs l = bs r ↔ l = r := ⟨fun h => by rw [← bs_list l, h, bs_list], fun h => by rw [h]⟩
theorem texts_eq (x y : ByteArray) : (ByteArray.toList x == ByteArray.toList y) = decide (x = y) := by
  rw [ByteArray.toList_eq, ByteArray.toList_eq, Bool.eq_iff_iff, beq_iff_eq, decide_eq_true_iff]
  constructor
  · intro h
    cases x; cases y
    simp only [Array.toList_inj] at h
    rw [h]
  · intro h; rw [h]
/-- the digit of a number below 10 -/
abbrev dgt (n : Nat) : UInt8 := UInt8.ofNat (48 + n)
theorem dgt_nat {n : Nat} (h : n < 10) : (dgt n).toNat = 48 + n := by simp [dgt, UInt8.toNat_ofNat']; omega
/-- digits, of numbers above 0; of 0 none -/
def decP : Nat → Nat → List UInt8
  | 0, _ => []
  | k + 1, n => if n = 0 then [] else decP k (n / 10) ++ [dgt (n % 10)]
theorem decF_decP : ∀ (k n : Nat), n < 10 ^ (k + 1) → decF (k + 1) n = decP k (n / 10) ++ [dgt (n % 10)]
  | 0, n, h => by
    have h' : n < 10 := by simpa using h
    have hb : Nat.blt n 10 = true := by rw [Nat.blt_eq]; exact h'
    unfold decF decP
    simp only [hb, cond_true, List.nil_append]
    rw [show n % 10 = n by omega]
  | k + 1, n, h => by
    unfold decF decP
    by_cases h' : n < 10
    · have hb : Nat.blt n 10 = true := by rw [Nat.blt_eq]; exact h'
      simp only [hb, cond_true]
      rw [if_pos (by omega), show n % 10 = n by omega]; rfl
    · have hb : Nat.blt n 10 = false := by
        cases hb : Nat.blt n 10
        · rfl
        · rw [Nat.blt_eq] at hb; omega
      simp only [hb, cond_false]
      rw [if_neg (by omega), decF_decP k (n / 10) (by have : 10 ^ (k + 1 + 1) = 10 ^ (k + 1) * 10 := Nat.pow_succ ..; omega)]
theorem decP_len : ∀ (k n : Nat), (decP k n).length ≤ k
  | 0, _ => by simp [decP]
  | k + 1, n => by
    unfold decP
    split
    · simp
    · have := decP_len k (n / 10); simp; omega
theorem decP_dig : ∀ (k n : Nat) (c : UInt8), c ∈ decP k n → 48 ≤ c.toNat ∧ c.toNat ≤ 57
  | 0, _, c, h => by simp [decP] at h
  | k + 1, n, c, h => by
    unfold decP at h
    split at h
    · simp at h
    · rcases List.mem_append.1 h with h | h
      · exact decP_dig k _ c h
      · rw [List.mem_singleton.1 h, dgt_nat (by omega)]; omega
/-- digits are parsed, one by one -/
theorem parse_decP (M : Nat) : ∀ (k n : Nat) (t : List UInt8), n < 10 ^ k → n < 18446744073709551616 → n ≤ M → Lib.parseUintM M 0 (decP k n ++ t) = Lib.parseUintM M n t
  | 0, n, t, h, _, _ => by
    have : n = 0 := by simpa using h
    subst this; rfl
  | k + 1, n, t, h, h2, h3 => by
    unfold decP
    split
    · rename_i h0; subst h0; rfl
    · rw [List.append_assoc, parse_decP M k (n / 10) _ (by have : 10 ^ (k + 1) = 10 ^ k * 10 := Nat.pow_succ ..; omega) (by omega) (by omega)]
      have hd := dgt_nat (n := n % 10) (by omega)
      conv => lhs; unfold Lib.parseUintM
      simp only [List.singleton_append, hd]
      rw [if_pos (by omega), if_neg (by omega), if_neg (by omega)]
      congr 1
      omega
theorem parse_dig {M acc n : Nat} {t : List UInt8} (h : n < 10) (h1 : acc * 10 + n ≤ M) (h2 : acc * 10 < 18446744073709551610) : Lib.parseUintM M acc (dgt n :: t) = Lib.parseUintM M (acc * 10 + n) t := by
  have hd := dgt_nat h
  conv => lhs; unfold Lib.parseUintM
  simp only [hd]
  rw [if_pos (by omega), if_neg (by omega), if_neg (by omega)]
  congr 1
  omega
theorem indexByte_skip (c : UInt8) : ∀ (l t : List UInt8), (∀ x, x ∈ l → x ≠ c) → Lib.indexByte (l ++ c :: t) c = l.length
  | [], t, _ => by simp [Lib.indexByte]
  | x :: l, t, h => by
    have hx : (x == c) = false := by simpa using h x (List.mem_cons_self ..)
    have ih := indexByte_skip c l t fun y hy => h y (List.mem_cons_of_mem _ hy)
    have hn : (Lib.indexByte (l ++ c :: t) c == -1) = false := by rw [ih]; simp only [beq_eq_false_iff_ne]; omega
    rw [List.cons_append, Lib.indexByte, hx]
    rw [if_neg (by simp), if_neg (by simp [hn]), ih]
    simp
theorem indexByte_lt (c : UInt8) : ∀ (l : List UInt8), Lib.indexByte l c < l.length
  | [] => by simp [Lib.indexByte]
  | x :: l => by
    have ih := indexByte_lt c l
    rw [Lib.indexByte]
    split
    · simp
    · split
      · simp; omega
      · simp; omega
end Go.Fw
end
section
/- The program of this seat, the types of its data, and its functions without a body. By this session. -/
set_option linter.unusedVariables false
set_option linter.unusedSimpArgs false
namespace Go.Proofs.YtiifdejnmaohlaaDoor
open Go Go.Fw
noncomputable abbrev P := Tryd.prog
theorem pick_le {n : Nat} {cs : List D} {A B : Nat → Option (List D)} (h : ∀ g c, A g = some c → B g = some c) : ∀ g c, (bif g == n then some cs else A g) = some c → (bif g == n then some cs else B g) = some c := by
  intro g c
  cases (g == n)
  · exact h g c
  · exact fun h => h
abbrev G0 : Nat → Option (List D) := fun g => bif g == 4 then some [.i .u64 1, .i .u64 10, .i .u64 100, .i .u64 1000, .i .u64 10000, .i .u64 100000, .i .u64 1000000, .i .u64 10000000, .i .u64 100000000, .i .u64 1000000000, .i .u64 10000000000, .i .u64 100000000000, .i .u64 1000000000000, .i .u64 10000000000000, .i .u64 100000000000000, .i .u64 1000000000000000, .i .u64 10000000000000000, .i .u64 100000000000000000, .i .u64 1000000000000000000, .i .u64 10000000000000000000] else bif g == 0 then some [.i .u8 0, .i .u8 0, .i .u8 0, .i .u8 0, .i .u8 0, .i .u8 0, .i .u8 0, .i .u8 0, .i .u8 0, .i .u8 1, .i .u8 1, .i .u8 1, .i .u8 1, .i .u8 1, .i .u8 0, .i .u8 0, .i .u8 0, .i .u8 0, .i .u8 0, .i .u8 0, .i .u8 0, .i .u8 0, .i .u8 0, .i .u8 0, .i .u8 0, .i .u8 0, .i .u8 0, .i .u8 0, .i .u8 0, .i .u8 0, .i .u8 0, .i .u8 0, .i .u8 1, .i .u8 0, .i .u8 0, .i .u8 0, .i .u8 0, .i .u8 0, .i .u8 0, .i .u8 0, .i .u8 0, .i .u8 0, .i .u8 0, .i .u8 0, .i .u8 0, .i .u8 0, .i .u8 0, .i .u8 0, .i .u8 0, .i .u8 0, .i .u8 0, .i .u8 0, .i .u8 0, .i .u8 0, .i .u8 0, .i .u8 0, .i .u8 0, .i .u8 0, .i .u8 0, .i .u8 0, .i .u8 0, .i .u8 0, .i .u8 0, .i .u8 0, .i .u8 0, .i .u8 0, .i .u8 0, .i .u8 0, .i .u8 0, .i .u8 0, .i .u8 0, .i .u8 0, .i .u8 0, .i .u8 0, .i .u8 0, .i .u8 0, .i .u8 0, .i .u8 0, .i .u8 0, .i .u8 0, .i .u8 0, .i .u8 0, .i .u8 0, .i .u8 0, .i .u8 0, .i .u8 0, .i .u8 0, .i .u8 0, .i .u8 0, .i .u8 0, .i .u8 0, .i .u8 0, .i .u8 0, .i .u8 0, .i .u8 0, .i .u8 0, .i .u8 0, .i .u8 0, .i .u8 0, .i .u8 0, .i .u8 0, .i .u8 0, .i .u8 0, .i .u8 0, .i .u8 0, .i .u8 0, .i .u8 0, .i .u8 0, .i .u8 0, .i .u8 0, .i .u8 0, .i .u8 0, .i .u8 0, .i .u8 0, .i .u8 0, .i .u8 0, .i .u8 0, .i .u8 0, .i .u8 0, .i .u8 0, .i .u8 0, .i .u8 0, .i .u8 0, .i .u8 0, .i .u8 0, .i .u8 0, .i .u8 0, .i .u8 0, .i .u8 0, .i .u8 0, .i .u8 0, .i .u8 0, .i .u8 0, .i .u8 0, .i .u8 0, .i .u8 0, .i .u8 0, .i .u8 0, .i .u8 0, .i .u8 0, .i .u8 0, .i .u8 0, .i .u8 0, .i .u8 0, .i .u8 0, .i .u8 0, .i .u8 0, .i .u8 0, .i .u8 0, .i .u8 0, .i .u8 0, .i .u8 0, .i .u8 0, .i .u8 0, .i .u8 0, .i .u8 0, .i .u8 0, .i .u8 0, .i .u8 0, .i .u8 0, .i .u8 0, .i .u8 0, .i .u8 0, .i .u8 0, .i .u8 0, .i .u8 0, .i .u8 0, .i .u8 0, .i .u8 0, .i .u8 0, .i .u8 0, .i .u8 0, .i .u8 0, .i .u8 0, .i .u8 0, .i .u8 0, .i .u8 0, .i .u8 0, .i .u8 0, .i .u8 0, .i .u8 0, .i .u8 0, .i .u8 0, .i .u8 0, .i .u8 0, .i .u8 0, .i .u8 0, .i .u8 0, .i .u8 0, .i .u8 0, .i .u8 0, .i .u8 0, .i .u8 0, .i .u8 0, .i .u8 0, .i .u8 0, .i .u8 0, .i .u8 0, .i .u8 0, .i .u8 0, .i .u8 0, .i .u8 0, .i .u8 0, .i .u8 0, .i .u8 0, .i .u8 0, .i .u8 0, .i .u8 0, .i .u8 0, .i .u8 0, .i .u8 0, .i .u8 0, .i .u8 0, .i .u8 0, .i .u8 0, .i .u8 0, .i .u8 0, .i .u8 0, .i .u8 0, .i .u8 0, .i .u8 0, .i .u8 0, .i .u8 0, .i .u8 0, .i .u8 0, .i .u8 0, .i .u8 0, .i .u8 0, .i .u8 0, .i .u8 0, .i .u8 0, .i .u8 0, .i .u8 0, .i .u8 0, .i .u8 0, .i .u8 0, .i .u8 0, .i .u8 0, .i .u8 0, .i .u8 0, .i .u8 0, .i .u8 0, .i .u8 0, .i .u8 0, .i .u8 0, .i .u8 0, .i .u8 0, .i .u8 0, .i .u8 0, .i .u8 0, .i .u8 0, .i .u8 0, .i .u8 0, .i .u8 0, .i .u8 0, .i .u8 0] else none
abbrev G1 : Nat → Option (List D) := fun g => bif g == 4 then some [.i .u64 1, .i .u64 10, .i .u64 100, .i .u64 1000, .i .u64 10000, .i .u64 100000, .i .u64 1000000, .i .u64 10000000, .i .u64 100000000, .i .u64 1000000000, .i .u64 10000000000, .i .u64 100000000000, .i .u64 1000000000000, .i .u64 10000000000000, .i .u64 100000000000000, .i .u64 1000000000000000, .i .u64 10000000000000000, .i .u64 100000000000000000, .i .u64 1000000000000000000, .i .u64 10000000000000000000] else bif g == 0 then some [.i .u8 0, .i .u8 0, .i .u8 0, .i .u8 0, .i .u8 0, .i .u8 0, .i .u8 0, .i .u8 0, .i .u8 0, .i .u8 1, .i .u8 1, .i .u8 1, .i .u8 1, .i .u8 1, .i .u8 0, .i .u8 0, .i .u8 0, .i .u8 0, .i .u8 0, .i .u8 0, .i .u8 0, .i .u8 0, .i .u8 0, .i .u8 0, .i .u8 0, .i .u8 0, .i .u8 0, .i .u8 0, .i .u8 0, .i .u8 0, .i .u8 0, .i .u8 0, .i .u8 1, .i .u8 0, .i .u8 0, .i .u8 0, .i .u8 0, .i .u8 0, .i .u8 0, .i .u8 0, .i .u8 0, .i .u8 0, .i .u8 0, .i .u8 0, .i .u8 0, .i .u8 0, .i .u8 0, .i .u8 0, .i .u8 0, .i .u8 0, .i .u8 0, .i .u8 0, .i .u8 0, .i .u8 0, .i .u8 0, .i .u8 0, .i .u8 0, .i .u8 0, .i .u8 0, .i .u8 0, .i .u8 0, .i .u8 0, .i .u8 0, .i .u8 0, .i .u8 0, .i .u8 0, .i .u8 0, .i .u8 0, .i .u8 0, .i .u8 0, .i .u8 0, .i .u8 0, .i .u8 0, .i .u8 0, .i .u8 0, .i .u8 0, .i .u8 0, .i .u8 0, .i .u8 0, .i .u8 0, .i .u8 0, .i .u8 0, .i .u8 0, .i .u8 0, .i .u8 0, .i .u8 0, .i .u8 0, .i .u8 0, .i .u8 0, .i .u8 0, .i .u8 0, .i .u8 0, .i .u8 0, .i .u8 0, .i .u8 0, .i .u8 0, .i .u8 0, .i .u8 0, .i .u8 0, .i .u8 0, .i .u8 0, .i .u8 0, .i .u8 0, .i .u8 0, .i .u8 0, .i .u8 0, .i .u8 0, .i .u8 0, .i .u8 0, .i .u8 0, .i .u8 0, .i .u8 0, .i .u8 0, .i .u8 0, .i .u8 0, .i .u8 0, .i .u8 0, .i .u8 0, .i .u8 0, .i .u8 0, .i .u8 0, .i .u8 0, .i .u8 0, .i .u8 0, .i .u8 0, .i .u8 0, .i .u8 0, .i .u8 0, .i .u8 0, .i .u8 0, .i .u8 0, .i .u8 0, .i .u8 0, .i .u8 0, .i .u8 0, .i .u8 0, .i .u8 0, .i .u8 0, .i .u8 0, .i .u8 0, .i .u8 0, .i .u8 0, .i .u8 0, .i .u8 0, .i .u8 0, .i .u8 0, .i .u8 0, .i .u8 0, .i .u8 0, .i .u8 0, .i .u8 0, .i .u8 0, .i .u8 0, .i .u8 0, .i .u8 0, .i .u8 0, .i .u8 0, .i .u8 0, .i .u8 0, .i .u8 0, .i .u8 0, .i .u8 0, .i .u8 0, .i .u8 0, .i .u8 0, .i .u8 0, .i .u8 0, .i .u8 0, .i .u8 0, .i .u8 0, .i .u8 0, .i .u8 0, .i .u8 0, .i .u8 0, .i .u8 0, .i .u8 0, .i .u8 0, .i .u8 0, .i .u8 0, .i .u8 0, .i .u8 0, .i .u8 0, .i .u8 0, .i .u8 0, .i .u8 0, .i .u8 0, .i .u8 0, .i .u8 0, .i .u8 0, .i .u8 0, .i .u8 0, .i .u8 0, .i .u8 0, .i .u8 0, .i .u8 0, .i .u8 0, .i .u8 0, .i .u8 0, .i .u8 0, .i .u8 0, .i .u8 0, .i .u8 0, .i .u8 0, .i .u8 0, .i .u8 0, .i .u8 0, .i .u8 0, .i .u8 0, .i .u8 0, .i .u8 0, .i .u8 0, .i .u8 0, .i .u8 0, .i .u8 0, .i .u8 0, .i .u8 0, .i .u8 0, .i .u8 0, .i .u8 0, .i .u8 0, .i .u8 0, .i .u8 0, .i .u8 0, .i .u8 0, .i .u8 0, .i .u8 0, .i .u8 0, .i .u8 0, .i .u8 0, .i .u8 0, .i .u8 0, .i .u8 0, .i .u8 0, .i .u8 0, .i .u8 0, .i .u8 0, .i .u8 0, .i .u8 0, .i .u8 0, .i .u8 0, .i .u8 0, .i .u8 0, .i .u8 0, .i .u8 0, .i .u8 0, .i .u8 0, .i .u8 0, .i .u8 0, .i .u8 0, .i .u8 0, .i .u8 0, .i .u8 0, .i .u8 0, .i .u8 0, .i .u8 0, .i .u8 0] else bif g == 1 then some [.er true] else bif g == 2 then some [.er true] else none
abbrev G2 : Nat → Option (List D) := fun g => bif g == 4 then some [.i .u64 1, .i .u64 10, .i .u64 100, .i .u64 1000, .i .u64 10000, .i .u64 100000, .i .u64 1000000, .i .u64 10000000, .i .u64 100000000, .i .u64 1000000000, .i .u64 10000000000, .i .u64 100000000000, .i .u64 1000000000000, .i .u64 10000000000000, .i .u64 100000000000000, .i .u64 1000000000000000, .i .u64 10000000000000000, .i .u64 100000000000000000, .i .u64 1000000000000000000, .i .u64 10000000000000000000] else bif g == 0 then some [.i .u8 0, .i .u8 0, .i .u8 0, .i .u8 0, .i .u8 0, .i .u8 0, .i .u8 0, .i .u8 0, .i .u8 0, .i .u8 1, .i .u8 1, .i .u8 1, .i .u8 1, .i .u8 1, .i .u8 0, .i .u8 0, .i .u8 0, .i .u8 0, .i .u8 0, .i .u8 0, .i .u8 0, .i .u8 0, .i .u8 0, .i .u8 0, .i .u8 0, .i .u8 0, .i .u8 0, .i .u8 0, .i .u8 0, .i .u8 0, .i .u8 0, .i .u8 0, .i .u8 1, .i .u8 0, .i .u8 0, .i .u8 0, .i .u8 0, .i .u8 0, .i .u8 0, .i .u8 0, .i .u8 0, .i .u8 0, .i .u8 0, .i .u8 0, .i .u8 0, .i .u8 0, .i .u8 0, .i .u8 0, .i .u8 0, .i .u8 0, .i .u8 0, .i .u8 0, .i .u8 0, .i .u8 0, .i .u8 0, .i .u8 0, .i .u8 0, .i .u8 0, .i .u8 0, .i .u8 0, .i .u8 0, .i .u8 0, .i .u8 0, .i .u8 0, .i .u8 0, .i .u8 0, .i .u8 0, .i .u8 0, .i .u8 0, .i .u8 0, .i .u8 0, .i .u8 0, .i .u8 0, .i .u8 0, .i .u8 0, .i .u8 0, .i .u8 0, .i .u8 0, .i .u8 0, .i .u8 0, .i .u8 0, .i .u8 0, .i .u8 0, .i .u8 0, .i .u8 0, .i .u8 0, .i .u8 0, .i .u8 0, .i .u8 0, .i .u8 0, .i .u8 0, .i .u8 0, .i .u8 0, .i .u8 0, .i .u8 0, .i .u8 0, .i .u8 0, .i .u8 0, .i .u8 0, .i .u8 0, .i .u8 0, .i .u8 0, .i .u8 0, .i .u8 0, .i .u8 0, .i .u8 0, .i .u8 0, .i .u8 0, .i .u8 0, .i .u8 0, .i .u8 0, .i .u8 0, .i .u8 0, .i .u8 0, .i .u8 0, .i .u8 0, .i .u8 0, .i .u8 0, .i .u8 0, .i .u8 0, .i .u8 0, .i .u8 0, .i .u8 0, .i .u8 0, .i .u8 0, .i .u8 0, .i .u8 0, .i .u8 0, .i .u8 0, .i .u8 0, .i .u8 0, .i .u8 0, .i .u8 0, .i .u8 0, .i .u8 0, .i .u8 0, .i .u8 0, .i .u8 0, .i .u8 0, .i .u8 0, .i .u8 0, .i .u8 0, .i .u8 0, .i .u8 0, .i .u8 0, .i .u8 0, .i .u8 0, .i .u8 0, .i .u8 0, .i .u8 0, .i .u8 0, .i .u8 0, .i .u8 0, .i .u8 0, .i .u8 0, .i .u8 0, .i .u8 0, .i .u8 0, .i .u8 0, .i .u8 0, .i .u8 0, .i .u8 0, .i .u8 0, .i .u8 0, .i .u8 0, .i .u8 0, .i .u8 0, .i .u8 0, .i .u8 0, .i .u8 0, .i .u8 0, .i .u8 0, .i .u8 0, .i .u8 0, .i .u8 0, .i .u8 0, .i .u8 0, .i .u8 0, .i .u8 0, .i .u8 0, .i .u8 0, .i .u8 0, .i .u8 0, .i .u8 0, .i .u8 0, .i .u8 0, .i .u8 0, .i .u8 0, .i .u8 0, .i .u8 0, .i .u8 0, .i .u8 0, .i .u8 0, .i .u8 0, .i .u8 0, .i .u8 0, .i .u8 0, .i .u8 0, .i .u8 0, .i .u8 0, .i .u8 0, .i .u8 0, .i .u8 0, .i .u8 0, .i .u8 0, .i .u8 0, .i .u8 0, .i .u8 0, .i .u8 0, .i .u8 0, .i .u8 0, .i .u8 0, .i .u8 0, .i .u8 0, .i .u8 0, .i .u8 0, .i .u8 0, .i .u8 0, .i .u8 0, .i .u8 0, .i .u8 0, .i .u8 0, .i .u8 0, .i .u8 0, .i .u8 0, .i .u8 0, .i .u8 0, .i .u8 0, .i .u8 0, .i .u8 0, .i .u8 0, .i .u8 0, .i .u8 0, .i .u8 0, .i .u8 0, .i .u8 0, .i .u8 0, .i .u8 0, .i .u8 0, .i .u8 0, .i .u8 0, .i .u8 0, .i .u8 0, .i .u8 0, .i .u8 0, .i .u8 0, .i .u8 0, .i .u8 0, .i .u8 0, .i .u8 0, .i .u8 0, .i .u8 0, .i .u8 0, .i .u8 0, .i .u8 0, .i .u8 0] else bif g == 1 then some [.er true] else bif g == 2 then some [.er true] else bif g == 9 then some [.i .u8 128, .i .u8 191, .i .u8 160, .i .u8 191, .i .u8 128, .i .u8 159, .i .u8 144, .i .u8 191, .i .u8 128, .i .u8 143, .i .u8 0, .i .u8 0, .i .u8 0, .i .u8 0, .i .u8 0, .i .u8 0, .i .u8 0, .i .u8 0, .i .u8 0, .i .u8 0, .i .u8 0, .i .u8 0, .i .u8 0, .i .u8 0, .i .u8 0, .i .u8 0, .i .u8 0, .i .u8 0, .i .u8 0, .i .u8 0, .i .u8 0, .i .u8 0] else none
theorem g01 : ∀ g cs, G0 g = some cs → G1 g = some cs := pick_le (pick_le (fun _ _ h => by cases h))
theorem g02 : ∀ g cs, G0 g = some cs → G2 g = some cs := pick_le (pick_le (fun _ _ h => by cases h))
theorem g12 : ∀ g cs, G1 g = some cs → G2 g = some cs := pick_le (pick_le (pick_le (pick_le (fun _ _ h => by cases h))))
abbrev T_api_Field : Ty := (.g (.p (.i .i64) .s))
abbrev T_utf8_acceptRange : Ty := (.g (.p (.i .u8) (.i .u8)))
abbrev T_api_Mti : Ty := (.g (.p (.i .i64) (.p .b (.p .b .b))))
abbrev T_api_Message : Ty := (.g (.p .s (.l T_api_Field)))
abbrev T_api_Spec : Ty := (.g (.p (.i .i64) (.p (.i .i64) (.i .i64))))
def cntB : List D → Option (Bool × D) := fun ds => match ds with
  | [.s x, .i .u8 y] => some (true, .i .i64 (((Lib.countByte x.data.toList y.toNat.toUInt8 : Nat) : Int)))
  | _ => none
theorem cntB_ok : ExtOK P 93 (bare cntB) := by
  intro ds r h w I vs hsz hv
  unfold bare cntB at h
  split at h
  · rename_i b q hq
    obtain ⟨hb, h⟩ := cond_some h
    injection h with h
    subst h
    split at hq
    · rename_i x y
      injection hq with hq
      injection hq with hq1 hq2
      subst hq2
      have e0 := hv 0 _ rfl
      have e1 := hv 1 _ rfl
      have hvs : vs = #[vs.getD 0 undef, vs.getD 1 undef] := by
        apply Array.ext
        · simpa using hsz
        · intro i hi hi'
          simp at hi'
          have : i = 0 ∨ i = 1 := by omega
          rcases this with rfl | rfl <;> simp [Array.getD_eq_getD_getElem?, Array.getElem?_eq_getElem hi]
      generalize vs.getD 0 undef = a0 at e0 hvs
      generalize vs.getD 1 undef = a1 at e1 hvs
      cases e0; cases e1
      refine ⟨_, by rw [hvs, run_callFunc_extern Tryd.func93 (by kernel_rfl) (by kernel_rfl) (by kernel_rfl) (e := Extern.BytealgCount.count) (by kernel_rfl), Lib.run_countString]; rfl, ?_⟩
      exact .i _ _
    · cases hq
  · cases h
def idxB : List D → Option (Bool × D) := fun ds => match ds with
  | [.s x, .i .u8 y] => some (true, .i .i64 (Lib.indexByte x.data.toList y.toNat.toUInt8))
  | _ => none
theorem idxB_ok : ExtOK P 114 (bare idxB) := by
  intro ds r h w I vs hsz hv
  unfold bare idxB at h
  split at h
  · rename_i b q hq
    obtain ⟨hb, h⟩ := cond_some h
    injection h with h
    subst h
    split at hq
    · rename_i x y
      injection hq with hq
      injection hq with hq1 hq2
      subst hq2
      have e0 := hv 0 _ rfl
      have e1 := hv 1 _ rfl
      have hvs : vs = #[vs.getD 0 undef, vs.getD 1 undef] := by
        apply Array.ext
        · simpa using hsz
        · intro i hi hi'
          simp at hi'
          have : i = 0 ∨ i = 1 := by omega
          rcases this with rfl | rfl <;> simp [Array.getD_eq_getD_getElem?, Array.getElem?_eq_getElem hi]
      generalize vs.getD 0 undef = a0 at e0 hvs
      generalize vs.getD 1 undef = a1 at e1 hvs
      cases e0; cases e1
      refine ⟨_, by rw [hvs, run_callFunc_extern Tryd.func114 (by kernel_rfl) (by kernel_rfl) (by kernel_rfl) (e := Extern.BytealgIndexByte.indexByte) (by kernel_rfl), Lib.run_indexByteString]; rfl, ?_⟩
      exact .i _ _
    · cases hq
  · cases h
abbrev E0 : FuncId → Option (List D → Option (Bool × D)) := fun g => bif g == 93 then some cntB else bif g == 114 then some idxB else none
theorem e0_ok : ∀ g f, E0 g = some f → ExtOK P g (bare f) := by
  intro g f h
  unfold E0 at h
  cases hg93 : (g == 93) with
  | true =>
    rw [hg93] at h
    injection h with h
    subst h
    have : g = 93 := by simpa using hg93
    subst this
    exact cntB_ok
  | false =>
  rw [hg93] at h
  simp only [cond_false] at h
  cases hg114 : (g == 114) with
  | true =>
    rw [hg114] at h
    injection h with h
    subst h
    have : g = 114 := by simpa using hg114
    subst this
    exact idxB_ok
  | false =>
  rw [hg114] at h
  simp only [cond_false] at h
  cases h
end Go.Proofs.YtiifdejnmaohlaaDoor
end
section
/- Small things about the library's contracts. By this session. -/
set_option linter.unusedVariables false
namespace Go.Proofs.YtiifdejnmaohlaaDoor
open Go Go.Fw Go.RowKit
theorem grow_below (w : World) (k : Nat) (os : Array Obj) : Below w.heap.size w (Sort.grow (w.drewN k) os) := by
  have h : Below w.heap.size w (w.drewN k) := by
    induction k with
    | zero => rw [World.drewN_zero]; exact .refl _ _
    | succ k ih => exact ⟨rfl, rfl, rfl, Nat.le_refl _, fun _ _ => rfl⟩
  exact h.trans ⟨rfl, rfl, rfl, by simp [Sort.grow], fun i hi => by
    show ((w.drewN k).heap ++ os)[i]? = _
    rw [Array.getElem?_append, if_pos (Nat.lt_of_lt_of_le hi h.size)]⟩
theorem ent_of {g : FuncId} {fn : Func} (h : P.funcs[g]? = some fn) (hn : (fn.name == "runtime.NumGoroutine") = false) (hb : fn.body.isNone = false) : Fw.Enters P g := ⟨fn, h, hn, hb⟩
/-- a call that leaves what was there as it was, and what is known of the memory -/
theorem pcall_belowI {G : Nat → Option (List D)} {g : FuncId} {ds : List D} {r : D}
    (h : ∀ (w : World) (I K : Mem) (vs : Array Value), Glob ⟨w, I, K, fun _ => 0, fun _ => 0, G⟩ → (∀ b, I b → b < w.heap.size) → (∀ b, K b → b < w.heap.size) → vs.size = ds.length → (∀ (j : Nat) (d : D), ds[j]? = some d → RelD w I d (vs.getD j undef)) →
      Calls P g vs w fun e w' => ∃ v, e = .returned v ∧ Below w.heap.size w w' ∧ RelX w' I K r v) : PCall P G g ds r := by
  intro w I K vs hg hI hK hd hsz hargs
  refine (h w I K vs hg hI hK hsz hargs).mono ?_
  rintro e w' ⟨v, rfl, hb, hx⟩
  refine ⟨v, I, rfl, hb.size, fun b hb' => ⟨hb', hb.block b (hI b hb')⟩, fun b hb' => hb.block b (hK b hb'), fun b hb' => ⟨Nat.lt_of_lt_of_le (hI b hb') hb.size, hd b hb'⟩, fun b cs e fz hc => ⟨cs, ?_, rfl⟩, hb.os, hb.tape, hb.output, hx⟩
  rw [hb.block b (Array.getElem?_eq_some_iff.1 hc).1]
  exact hc
theorem alloc_below (w : World) (o : Obj) : Below w.heap.size w (w.alloc o) := ⟨rfl, rfl, rfl, by show w.heap.size ≤ (w.heap.push _).size; simp, fun i hi => by
  show (w.heap.push o)[i]? = _
  rw [Array.getElem?_push, if_neg (by omega)]⟩
/-- a row of one-cell data in a new block -/
theorem frOK_alloc {w : World} {I K : Mem} {xs : List D} {vs : List Value} {t : TypeId} (hI : ∀ b, I b → b < w.heap.size) (hK : ∀ b, K b → b < w.heap.size) (hl : xs.length = vs.length) (hw : ∀ x ∈ xs, x.cells = [x]) (h1 : ∀ v ∈ vs, v.oneCell' = true)
    (h : ∀ (j : Nat) (d : D), xs[j]? = some d → RelD (w.alloc (.cells vs.toArray t)) I d (vs.toArray.getD j undef)) : FrOK (w.alloc (.cells vs.toArray t)) I K 1 xs (.slice (some ⟨w.heap.size, 0, none⟩) xs.length xs.length) := by
  have hh : (w.alloc (.cells vs.toArray t)).heap[w.heap.size]? = some (.cells vs.toArray t) := by
    show (w.heap.push _)[w.heap.size]? = _
    rw [Array.getElem?_push, if_pos rfl]
  refine ⟨_, _, rfl, Nat.le_refl _, rfl, .inl rfl, fun hb => Nat.lt_irrefl _ (hI _ hb), fun hb => Nat.lt_irrefl _ (hK _ hb), ⟨rfl, vs.toArray, t, _, hh, fun o _ ho => by omega, fun x hx => by simp [D.width, hw x hx], by omega, by simp [hl], fun j hj => ?_, fun j k x d hx hd => ?_⟩, _, _, _, hh, by simp [hl], by simp⟩
  · have hj' : j < vs.length := by omega
    rw [Array.getD_eq_getD_getElem?]
    simp only [List.getElem?_toArray, List.getElem?_eq_getElem hj', Option.getD_some]
    exact h1 _ (List.getElem_mem hj')
  · have hm : x ∈ xs := List.mem_of_getElem? hx
    rw [hw x hm] at hd
    cases k with
    | zero =>
      simp only [List.getElem?_cons_zero, Option.some.injEq] at hd
      subst hd
      have := h j x hx
      rw [show j * 1 + 0 = j by omega]
      exact this
    | succ k => simp at hd
end Go.Proofs.YtiifdejnmaohlaaDoor
end
section
/- Contracts of the library at this program, in plain words. Written by a tool of the kit.
-/
namespace Go.Proofs
open Go.Shelf
def Tryd.laysC172_ren : Go.Shelf.Ren := ⟨fun | 172 => 40 | 244 => 52 | 245 => 53 | 247 => 67 | 279 => 68 | 280 => 69 | 281 => 70 | 282 => 71 | 287 => 83 | 316 => 84 | 171 => 36 | 205 => 85 | 321 => 101 | 322 => 102 | 243 => 50 | 246 => 61 | 283 => 79 | 284 => 80 | 285 => 81 | 286 => 82 | 129 => 97 | 317 => 96 | 318 => 98 | 319 => 99 | 320 => 100 | 337 => 112 | 338 => 113 | n => n, fun | 9 => 9 | 3 => 3 | 75 => 66 | 76 => 67 | 4 => 4 | 5 => 5 | 167 => 100 | 37 => 71 | 0 => 0 | 85 => 101 | 2 => 2 | 168 => 103 | 53 => 114 | 175 => 119 | 46 => 121 | 210 => 123 | 127 => 147 | 145 => 150 | 143 => 148 | 21 => 21 | 171 => 113 | 173 => 117 | 212 => 142 | 51 => 128 | 20 => 20 | 213 => 143 | 232 => 172 | 233 => 173 | 80 => 177 | n => n, fun | 15 => 1 | 16 => 2 | 17 => 4 | 18 => 6 | 19 => 7 | n => n⟩
theorem Tryd.laysC172 : Go.Proofs.LaysC.n172 Tryd.prog Tryd.laysC172_ren := {
  mixed := by kernel_rfl
  f129 := Tryd.func97.trans (congrArg some (by kernel_rfl))
  f171 := Tryd.func36.trans (congrArg some (by kernel_rfl))
  f172 := Tryd.func40.trans (congrArg some (by kernel_rfl))
  f205 := Tryd.func85.trans (congrArg some (by kernel_rfl))
  f243 := Tryd.func50.trans (congrArg some (by kernel_rfl))
  f244 := Tryd.func52.trans (congrArg some (by kernel_rfl))
  f245 := Tryd.func53.trans (congrArg some (by kernel_rfl))
  f246 := Tryd.func61.trans (congrArg some (by kernel_rfl))
  f247 := Tryd.func67.trans (congrArg some (by kernel_rfl))
  f279 := Tryd.func68.trans (congrArg some (by kernel_rfl))
  f280 := Tryd.func69.trans (congrArg some (by kernel_rfl))
  f281 := Tryd.func70.trans (congrArg some (by kernel_rfl))
  f282 := Tryd.func71.trans (congrArg some (by kernel_rfl))
  f283 := Tryd.func79.trans (congrArg some (by kernel_rfl))
  f284 := Tryd.func80.trans (congrArg some (by kernel_rfl))
  f285 := Tryd.func81.trans (congrArg some (by kernel_rfl))
  f286 := Tryd.func82.trans (congrArg some (by kernel_rfl))
  f287 := Tryd.func83.trans (congrArg some (by kernel_rfl))
  f316 := Tryd.func84.trans (congrArg some (by kernel_rfl))
  f317 := Tryd.func96.trans (congrArg some (by kernel_rfl))
  f318 := Tryd.func98.trans (congrArg some (by kernel_rfl))
  f319 := Tryd.func99.trans (congrArg some (by kernel_rfl))
  f320 := Tryd.func100.trans (congrArg some (by kernel_rfl))
  f321 := Tryd.func101.trans (congrArg some (by kernel_rfl))
  f322 := Tryd.func102.trans (congrArg some (by kernel_rfl))
  f337 := Tryd.func112.trans (congrArg some (by kernel_rfl))
  f338 := Tryd.func113.trans (congrArg some (by kernel_rfl))
  t0 := Tryd.underlying0
  a0 := Tryd.isAgg0
  z0 := Tryd.sizeOf0
  v0 := Tryd.zeroValue0
  t2 := Tryd.underlying2
  a2 := Tryd.isAgg2
  z2 := Tryd.sizeOf2
  v2 := Tryd.zeroValue2
  t3 := Tryd.underlying3
  a3 := Tryd.isAgg3
  z3 := Tryd.sizeOf3
  v3 := Tryd.zeroValue3
  t4 := Tryd.underlying4
  a4 := Tryd.isAgg4
  z4 := Tryd.sizeOf4
  v4 := Tryd.zeroValue4
  t5 := Tryd.underlying5
  a5 := Tryd.isAgg5
  z5 := Tryd.sizeOf5
  v5 := Tryd.zeroValue5
  t9 := Tryd.underlying9
  a9 := Tryd.isAgg9
  z9 := Tryd.sizeOf9
  v9 := Tryd.zeroValue9
  t20 := Tryd.underlying20
  a20 := Tryd.isAgg20
  z20 := Tryd.sizeOf20
  v20 := Tryd.zeroValue20
  t21 := Tryd.underlying21
  a21 := Tryd.isAgg21
  z21 := Tryd.sizeOf21
  v21 := Tryd.zeroValue21
  t37 := Tryd.underlying71
  a37 := Tryd.isAgg71
  z37 := Tryd.sizeOf71
  v37 := Tryd.zeroValue71
  t46 := Tryd.underlying121
  a46 := Tryd.isAgg121
  z46 := Tryd.sizeOf121
  v46 := Tryd.zeroValue121
  t51 := Tryd.underlying128
  a51 := Tryd.isAgg128
  z51 := Tryd.sizeOf128
  v51 := Tryd.zeroValue128
  t53 := Tryd.underlying114
  a53 := Tryd.isAgg114
  z53 := Tryd.sizeOf114
  v53 := Tryd.zeroValue114
  t75 := Tryd.underlying66
  a75 := Tryd.isAgg66
  z75 := Tryd.sizeOf66
  v75 := Tryd.zeroValue66
  t76 := Tryd.underlying67
  a76 := Tryd.isAgg67
  z76 := Tryd.sizeOf67
  v76 := Tryd.zeroValue67
  t85 := Tryd.underlying101
  a85 := Tryd.isAgg101
  z85 := Tryd.sizeOf101
  v85 := Tryd.zeroValue101
  t127 := Tryd.underlying147
  a127 := Tryd.isAgg147
  z127 := Tryd.sizeOf147
  v127 := Tryd.zeroValue147
  t143 := Tryd.underlying148
  a143 := Tryd.isAgg148
  z143 := Tryd.sizeOf148
  v143 := Tryd.zeroValue148
  t145 := Tryd.underlying150
  a145 := Tryd.isAgg150
  z145 := Tryd.sizeOf150
  v145 := Tryd.zeroValue150
  t167 := Tryd.underlying100
  a167 := Tryd.isAgg100
  z167 := Tryd.sizeOf100
  v167 := Tryd.zeroValue100
  t168 := Tryd.underlying103
  a168 := Tryd.isAgg103
  z168 := Tryd.sizeOf103
  v168 := Tryd.zeroValue103
  t171 := Tryd.underlying113
  a171 := Tryd.isAgg113
  z171 := Tryd.sizeOf113
  v171 := Tryd.zeroValue113
  t173 := Tryd.underlying117
  a173 := Tryd.isAgg117
  z173 := Tryd.sizeOf117
  v173 := Tryd.zeroValue117
  t175 := Tryd.underlying119
  a175 := Tryd.isAgg119
  z175 := Tryd.sizeOf119
  v175 := Tryd.zeroValue119
  t210 := Tryd.underlying123
  a210 := Tryd.isAgg123
  z210 := Tryd.sizeOf123
  v210 := Tryd.zeroValue123
  t212 := Tryd.underlying142
  a212 := Tryd.isAgg142
  z212 := Tryd.sizeOf142
  v212 := Tryd.zeroValue142
  t213 := Tryd.underlying143
  a213 := Tryd.isAgg143
  z213 := Tryd.sizeOf143
  t232 := Tryd.underlying172
  a232 := Tryd.isAgg172
  z232 := Tryd.sizeOf172
  v232 := Tryd.zeroValue172
  t233 := Tryd.underlying173
  a233 := Tryd.isAgg173
  z233 := Tryd.sizeOf173
  v233 := Tryd.zeroValue173
  g15 := by kernel_rfl
  g16 := by kernel_rfl
  g17 := by kernel_rfl
  g18 := by kernel_rfl
  g19 := by kernel_rfl
  t80 := Tryd.underlying177
  a80 := Tryd.isAgg177
  z80 := Tryd.sizeOf177
  v80 := Tryd.zeroValue177
  i0 := by kernel_rfl
  i2 := by kernel_rfl
  i3 := by kernel_rfl
  i4 := by kernel_rfl
  i5 := by kernel_rfl
  i9 := by kernel_rfl
  i20 := by kernel_rfl
  i21 := by kernel_rfl
  i37 := by kernel_rfl
  i46 := by kernel_rfl
  i51 := by kernel_rfl
  i53 := by kernel_rfl
  i75 := by kernel_rfl
  i76 := by kernel_rfl
  i80 := by kernel_rfl
  i85 := by kernel_rfl
  i127 := by kernel_rfl
  i143 := by kernel_rfl
  i145 := by kernel_rfl
  i167 := by kernel_rfl
  i168 := by kernel_rfl
  i171 := by kernel_rfl
  i173 := by kernel_rfl
  i175 := by kernel_rfl
  i210 := by kernel_rfl
  i212 := by kernel_rfl
  i232 := by kernel_rfl
  i233 := by kernel_rfl
  m15 := by kernel_rfl
  m16 := by kernel_rfl
  m17 := by kernel_rfl
  m18 := by kernel_rfl
  m19 := by kernel_rfl
  c0 := by kernel_rfl
  c2 := by kernel_rfl
  c3 := by kernel_rfl
  c4 := by kernel_rfl
  c5 := by kernel_rfl
  c9 := by kernel_rfl
  c20 := by kernel_rfl
  c21 := by kernel_rfl
  c37 := by kernel_rfl
  c46 := by kernel_rfl
  c51 := by kernel_rfl
  c53 := by kernel_rfl
  c75 := by kernel_rfl
  c76 := by kernel_rfl
  c80 := by kernel_rfl
  c85 := by kernel_rfl
  c127 := by kernel_rfl
  c143 := by kernel_rfl
  c145 := by kernel_rfl
  c167 := by kernel_rfl
  c168 := by kernel_rfl
  c171 := by kernel_rfl
  c173 := by kernel_rfl
  c175 := by kernel_rfl
  c210 := by kernel_rfl
  c212 := by kernel_rfl
  c213 := by kernel_rfl
  c232 := by kernel_rfl
  c233 := by kernel_rfl }
end Go.Proofs
end
section
/- strconv.Atoi, as a row, by the library's contracts. By this session. -/
set_option linter.unusedVariables false
namespace Go.Proofs.YtiifdejnmaohlaaDoor
open Go Go.Fw Go.RowKit Go.Shelf
def atoiU (l : List UInt8) : Int × Bool := match Lib.atoiAll l with
  | .ok v => (v, false)
  | .«syntax» => (0, true)
  | .range => (Lib.atoiSat l, true)
abbrev strconv_Atoi.As : Shs := .cons (.x .s) .nil
abbrev strconv_Atoi.m : Back := [(false, .i .i64), (false, .e)]
abbrev strconv_Atoi.f (a : ByteArray) : Option (Int × Bool) := bif decide (a.size ≤ 281474976710656) then some (atoiU a.data.toList) else none
noncomputable abbrev strconv_Atoi.row : Row := fnRow 40 strconv_Atoi.As strconv_Atoi.m strconv_Atoi.f
theorem atoi_bytes_below (w : World) (t : TypeId) (s : ByteArray) : Below w.heap.size w (Lib.bytesWorld w t s) := by
  unfold Lib.bytesWorld World.freeze
  rw [if_neg (by decide)]
  refine ⟨rfl, rfl, rfl, by simp, fun k hk => ?_⟩
  show ((w.heap.push _).modify _ _)[k]? = _
  rw [Array.getElem?_modify, if_neg (by show ¬ w.heap.size = k; omega), Array.getElem?_push, if_neg (by omega)]
theorem strconv_Atoi.row_ok : RowOK P G1 strconv_Atoi.row := by
  have key : ∀ (ds : List D) (a : ByteArray) (q : Int × Bool), decArgs strconv_Atoi.As ds = some a → strconv_Atoi.f a = some q → Fw.Enters P 40 ∧ PCall P G1 40 ds (.tp [.i .i64 q.1, .er q.2]) := by
    intro ds a q ha hq
    refine ⟨ent_of Tryd.func40 (by kernel_rfl) (by kernel_rfl), ?_⟩
    have hds := (decArgs_argD ha).symm
    refine PCall.coe (ds' := argD strconv_Atoi.As a) ?_ (by rw [← hds]; exact coeA_len) fun w I f hf => by rw [← hds]; exact coeA_rel hf
    refine pcall_below fun w I K vs hg hsz hr => ?_
    have h0 := hr 0 (.s a) rfl
    have hvs : vs = #[.string a] := by
      have hs : vs.size = 1 := hsz
      rw [Array.getD_eq_getD_getElem?, Array.getElem?_eq_getElem (by omega)] at h0
      simp only [Option.getD_some] at h0
      refine Array.ext (by simpa using hs) fun i hi hi' => ?_
      match i, hi with
      | 0, _ => cases h : vs[0] <;> rw [h] at h0 <;> cases h0; rfl
      | i + 1, hi => omega
    subst hvs
    unfold strconv_Atoi.f at hq
    obtain ⟨hb, hq⟩ := cond_some hq
    simp only [decide_eq_true_eq] at hb
    injection hq with hq
    subst hq
    unfold atoiU
    have tup : ∀ (w' : World) (n : Int) (b : Bool) (v : Value), RelD w' I (.er b) v → RelX w' I K (.tp [.i .i64 n, .er b]) (.tuple #[.int .i64 n, v]) := fun w' n b v hv => ⟨_, rfl, RelD.i .i64 n, ⟨hv, trivial, fun b h => by cases b <;> cases h⟩, fun b h => by cases h⟩
    cases hp : Lib.atoiAll a.data.toList with
    | ok u =>
      refine (Any.strconv_Atoi_ok Tryd.laysC172 a (by omega) u hp w).mono ?_
      rintro e w' ⟨rfl, hw⟩
      refine ⟨_, rfl, ?_, tup w' u false _ .er0⟩
      rcases hw with rfl | ⟨t, rfl⟩
      · exact .refl _ _
      · exact atoi_bytes_below _ _ _
    | «syntax» =>
      obtain ⟨tp, p, hv⟩ := err_of_glob (P := P) hg (g := 1) (name := "strconv.ErrSyntax") (by kernel_rfl) rfl
      refine (Any.strconv_Atoi_syntax_var Tryd.laysC172 a hb hp tp p w hv).mono ?_
      rintro e w' ⟨N, rfl, _, _, hb⟩
      exact ⟨_, rfl, hb, tup w' 0 true _ (.er1 _ _)⟩
    | range =>
      obtain ⟨tp, p, hv⟩ := err_of_glob (P := P) hg (g := 2) (name := "strconv.ErrRange") (by kernel_rfl) rfl
      refine (Any.strconv_Atoi_range_var Tryd.laysC172 a hb hp tp p w hv).mono ?_
      rintro e w' ⟨N, rfl, _, _, hb⟩
      exact ⟨_, rfl, hb, tup w' _ true _ (.er1 _ _)⟩
  exact fun ds a q => key ds a q
end Go.Proofs.YtiifdejnmaohlaaDoor
end
section
/- Contracts of the library at this program, in plain words. Written by a tool of the kit.
-/
namespace Go.Proofs
open Go.Shelf
def Tryd.lays157_ren : Go.Shelf.Ren := ⟨fun | 157 => 54 | 229 => 72 | 199 => 73 | 261 => 86 | 311 => 103 | 312 => 104 | n => n, fun | 9 => 9 | 31 => 88 | 3 => 3 | 5 => 5 | 4 => 4 | 119 => 106 | 0 => 0 | 40 => 108 | 152 => 125 | 21 => 21 | 154 => 127 | 51 => 128 | 141 => 130 | 196 => 154 | 193 => 151 | 198 => 157 | 49 => 155 | 194 => 152 | 201 => 160 | 226 => 167 | 46 => 121 | 227 => 168 | n => n, fun | 0 => 0 | 6 => 3 | n => n⟩
theorem Tryd.lays157 : Go.Proofs.Lays.n157 Tryd.prog Tryd.lays157_ren := {
  mixed := by kernel_rfl
  f157 := Tryd.func54.trans (congrArg some (by kernel_rfl))
  f199 := Tryd.func73.trans (congrArg some (by kernel_rfl))
  f229 := Tryd.func72.trans (congrArg some (by kernel_rfl))
  f261 := Tryd.func86.trans (congrArg some (by kernel_rfl))
  f311 := Tryd.func103.trans (congrArg some (by kernel_rfl))
  f312 := Tryd.func104.trans (congrArg some (by kernel_rfl))
  t0 := Tryd.underlying0
  a0 := Tryd.isAgg0
  z0 := Tryd.sizeOf0
  v0 := Tryd.zeroValue0
  t3 := Tryd.underlying3
  a3 := Tryd.isAgg3
  z3 := Tryd.sizeOf3
  v3 := Tryd.zeroValue3
  t4 := Tryd.underlying4
  a4 := Tryd.isAgg4
  z4 := Tryd.sizeOf4
  v4 := Tryd.zeroValue4
  t5 := Tryd.underlying5
  a5 := Tryd.isAgg5
  z5 := Tryd.sizeOf5
  v5 := Tryd.zeroValue5
  t9 := Tryd.underlying9
  a9 := Tryd.isAgg9
  z9 := Tryd.sizeOf9
  v9 := Tryd.zeroValue9
  t21 := Tryd.underlying21
  a21 := Tryd.isAgg21
  z21 := Tryd.sizeOf21
  v21 := Tryd.zeroValue21
  t31 := Tryd.underlying88
  a31 := Tryd.isAgg88
  z31 := Tryd.sizeOf88
  v31 := Tryd.zeroValue88
  t40 := Tryd.underlying108
  a40 := Tryd.isAgg108
  z40 := Tryd.sizeOf108
  v40 := Tryd.zeroValue108
  t46 := Tryd.underlying121
  a46 := Tryd.isAgg121
  z46 := Tryd.sizeOf121
  v46 := Tryd.zeroValue121
  t49 := Tryd.underlying155
  a49 := Tryd.isAgg155
  z49 := Tryd.sizeOf155
  v49 := Tryd.zeroValue155
  t51 := Tryd.underlying128
  a51 := Tryd.isAgg128
  z51 := Tryd.sizeOf128
  v51 := Tryd.zeroValue128
  t119 := Tryd.underlying106
  a119 := Tryd.isAgg106
  z119 := Tryd.sizeOf106
  t141 := Tryd.underlying130
  a141 := Tryd.isAgg130
  z141 := Tryd.sizeOf130
  v141 := Tryd.zeroValue130
  t152 := Tryd.underlying125
  a152 := Tryd.isAgg125
  z152 := Tryd.sizeOf125
  v152 := Tryd.zeroValue125
  t154 := Tryd.underlying127
  a154 := Tryd.isAgg127
  z154 := Tryd.sizeOf127
  v154 := Tryd.zeroValue127
  t193 := Tryd.underlying151
  a193 := Tryd.isAgg151
  z193 := Tryd.sizeOf151
  v193 := Tryd.zeroValue151
  t194 := Tryd.underlying152
  a194 := Tryd.isAgg152
  z194 := Tryd.sizeOf152
  v194 := Tryd.zeroValue152
  t196 := Tryd.underlying154
  a196 := Tryd.isAgg154
  z196 := Tryd.sizeOf154
  v196 := Tryd.zeroValue154
  t198 := Tryd.underlying157
  a198 := Tryd.isAgg157
  z198 := Tryd.sizeOf157
  v198 := Tryd.zeroValue157
  t201 := Tryd.underlying160
  a201 := Tryd.isAgg160
  z201 := Tryd.sizeOf160
  v201 := Tryd.zeroValue160
  t226 := Tryd.underlying167
  a226 := Tryd.isAgg167
  z226 := Tryd.sizeOf167
  v226 := Tryd.zeroValue167
  t227 := Tryd.underlying168
  a227 := Tryd.isAgg168
  z227 := Tryd.sizeOf168
  v227 := Tryd.zeroValue168
  g0 := by kernel_rfl
  g6 := by kernel_rfl }
end Go.Proofs
end
section
/- strings.Fields, on texts below 128, as a row, by the library's contract. By this session. -/
set_option linter.unusedVariables false
namespace Go.Proofs.YtiifdejnmaohlaaDoor
open Go Go.Fw Go.RowKit Go.Shelf
abbrev strings_Fields.As : Shs := .cons (.x .s) .nil
abbrev strings_Fields.m : Back := [(true, .l .s)]
abbrev strings_Fields.f (a : ByteArray) : Option (List ByteArray) := bif decide (a.size < 4294967281) && a.data.toList.all (fun b => decide (b.toNat < 128)) then some ((Lib.fields a.data.toList).map fun l => bs l) else none
noncomputable abbrev strings_Fields.row : Row := fnRow 54 strings_Fields.As strings_Fields.m strings_Fields.f
theorem strings_Fields.row_ok : RowOK P G0 strings_Fields.row := by
  have key : ∀ (ds : List D) (a : ByteArray) (q : List ByteArray), decArgs strings_Fields.As ds = some a → strings_Fields.f a = some q → Fw.Enters P 54 ∧ PCall P G0 54 ds (.fr 1 (.t .s q)) := by
    intro ds a q ha hq
    refine ⟨ent_of Tryd.func54 (by kernel_rfl) (by kernel_rfl), ?_⟩
    have hds := (decArgs_argD ha).symm
    refine PCall.coe (ds' := argD strings_Fields.As a) ?_ (by rw [← hds]; exact coeA_len) fun w I f hf => by rw [← hds]; exact coeA_rel hf
    refine pcall_belowI fun w I K vs hg hI hK hsz hr => ?_
    have h0 := hr 0 (.s a) rfl
    have hvs : vs = #[.string a] := by
      have hs : vs.size = 1 := hsz
      rw [Array.getD_eq_getD_getElem?, Array.getElem?_eq_getElem (by omega)] at h0
      simp only [Option.getD_some] at h0
      refine Array.ext (by simpa using hs) fun i hi hi' => ?_
      match i, hi with
      | 0, _ => cases h : vs[0] <;> rw [h] at h0 <;> cases h0; rfl
      | i + 1, hi => omega
    subst hvs
    unfold strings_Fields.f at hq
    obtain ⟨hb, hq⟩ := cond_some hq
    simp only [Bool.and_eq_true, decide_eq_true_eq, List.all_eq_true] at hb
    injection hq with hq
    subst hq
    refine (Any.strings_Fields Tryd.lays157 (by kernel_rfl) (by kernel_rfl) a w hb.1 (fun j b hj => hb.2 b (List.mem_of_getElem? hj)) (tab_of_glob hg (g := 0) (by kernel_rfl) (by kernel_rfl))).mono ?_
    rintro e w' ⟨rfl, rfl⟩
    refine ⟨_, rfl, alloc_below _ _, ?_⟩
    obtain ⟨l, hl⟩ : ∃ l, Lib.fields a.data.toList = l := ⟨_, rfl⟩
    rw [hl]
    have := frOK_alloc (w := w) (I := I) (K := K) (xs := (l.map fun l => bs l).map D.s) (vs := l.map fun l => Value.string ⟨l.toArray⟩) (t := 9) hI hK (by simp) (fun x hx => by
      obtain ⟨y, _, rfl⟩ := List.mem_map.1 hx; rfl) (fun v hv => by
      obtain ⟨y, _, rfl⟩ := List.mem_map.1 hv; rfl) (fun j d hj => by
      simp only [List.getElem?_map] at hj
      obtain ⟨y, hy, rfl⟩ := Option.map_eq_some_iff.1 hj
      obtain ⟨z, hz, rfl⟩ := Option.map_eq_some_iff.1 hy
      simp only [Array.getD_eq_getD_getElem?, List.getElem?_toArray, List.getElem?_map, hz, Option.map_some, Option.getD_some]
      exact RelD.s _)
    simp only [List.length_map] at this
    exact this
  exact fun ds a q => key ds a q
end Go.Proofs.YtiifdejnmaohlaaDoor
end
section
/- The Go function spec.kinds, as a Lean function, and that it is this one. Written by a program of this session. -/
set_option linter.unusedVariables false
set_option maxRecDepth 100000
namespace Go.Proofs.YtiifdejnmaohlaaDoor
open Go Go.Fw
abbrev spec_kinds.row : Row := closedRow 51 (.ag [.s (bs []), .nF, .s (bs [110]), .fn 62 [], .s (bs [97, 110]), .fn 63 [], .s (bs [97, 110, 115]), .fn 65 [], .s (bs [98]), .fn 66 []])
theorem spec_kinds.row_ok : RowOK P G0 spec_kinds.row := closed_ok e0_ok (T := []) trivial 60 (by kernel_rfl)
end Go.Proofs.YtiifdejnmaohlaaDoor
end
section
/- The Go function spec.read, as a Lean function, and that it is this one. Written by a program of this session. -/
set_option linter.unusedVariables false
set_option maxRecDepth 100000
namespace Go.Proofs.YtiifdejnmaohlaaDoor
open Go Go.Fw
noncomputable abbrev spec_read.tab : List (ByteArray × Int × Int × Int) := [(bs [110, 46, 46, 49, 57], (1, 2, 19)), (bs [110, 54], (1, 0, 6)), (bs [110, 49, 50], (1, 0, 12)), (bs [110, 49, 48], (1, 0, 10)), (bs [110, 56], (1, 0, 8)), (bs [110, 52], (1, 0, 4)), (bs [110, 51], (1, 0, 3)), (bs [110, 50], (1, 0, 2)), (bs [110, 49], (1, 0, 1)), (bs [97, 110, 57], (2, 0, 9)), (bs [110, 46, 46, 49, 49], (1, 2, 11)), (bs [97, 110, 46, 46, 50, 56], (2, 2, 28)), (bs [97, 110, 115, 46, 46, 51, 55], (3, 2, 37)), (bs [97, 110, 115, 46, 46, 46, 49, 48, 52], (3, 3, 104)), (bs [97, 110, 49, 50], (2, 0, 12)), (bs [97, 110, 54], (2, 0, 6)), (bs [97, 110, 50], (2, 0, 2)), (bs [97, 110, 51], (2, 0, 3)), (bs [97, 110, 115, 56], (3, 0, 8)), (bs [97, 110, 115, 49, 53], (3, 0, 15)), (bs [97, 110, 115, 52, 48], (3, 0, 40)), (bs [97, 110, 115, 46, 46, 50, 53], (3, 2, 25)), (bs [97, 110, 115, 46, 46, 55, 54], (3, 2, 76)), (bs [97, 110, 115, 46, 46, 46, 57, 57, 57], (3, 3, 999)), (bs [98, 56], (4, 0, 8)), (bs [110, 49, 54], (1, 0, 16)), (bs [97, 110, 46, 46, 46, 49, 50, 48], (2, 3, 120)), (bs [110, 52, 50], (1, 0, 42)), (bs [97, 110, 49], (2, 0, 1)), (bs [97, 110, 53], (2, 0, 5)), (bs [97, 110, 55], (2, 0, 7)), (bs [97, 110, 52, 50], (2, 0, 42)), (bs [97, 110, 49, 55], (2, 0, 17)), (bs [97, 110, 115, 50, 53], (3, 0, 25)), (bs [97, 110, 115, 46, 46, 49, 55], (3, 2, 17)), (bs [97, 110, 115, 46, 46, 50, 56], (3, 2, 28)), (bs [97, 110, 115, 46, 46, 46, 49, 48, 48], (3, 3, 100))]
abbrev spec_read.m : Back := [(false, T_api_Spec)]
noncomputable def spec_read.f : ByteArray → Option (Int × Int × Int) := lookT spec_read.tab
noncomputable abbrev spec_read.row : Row := fnRow 56 AsT spec_read.m spec_read.f
theorem spec_read.row_ok : RowOK P G1 spec_read.row := told_texts e0_ok (T := [strconv_Atoi.row, spec_kinds.row]) ⟨strconv_Atoi.row_ok, ⟨(spec_kinds.row_ok.more g01), trivial⟩⟩ (m := spec_read.m) spec_read.tab 60 (by kernel_rfl)
end Go.Proofs.YtiifdejnmaohlaaDoor
end
section
/- The Go function spec.table, as a Lean function, and that it is this one. Written by a program of this session. -/
set_option linter.unusedVariables false
set_option maxRecDepth 100000
namespace Go.Proofs.YtiifdejnmaohlaaDoor
open Go Go.Fw
abbrev spec_table.row : Row := closedRow 41 (.ag [.i .i64 0, .i .i64 0, .i .i64 0, .i .i64 0, .i .i64 0, .i .i64 0, .i .i64 1, .i .i64 2, .i .i64 19, .i .i64 1, .i .i64 0, .i .i64 6, .i .i64 1, .i .i64 0, .i .i64 12, .i .i64 1, .i .i64 0, .i .i64 12, .i .i64 1, .i .i64 0, .i .i64 12, .i .i64 1, .i .i64 0, .i .i64 10, .i .i64 1, .i .i64 0, .i .i64 8, .i .i64 1, .i .i64 0, .i .i64 8, .i .i64 1, .i .i64 0, .i .i64 8, .i .i64 1, .i .i64 0, .i .i64 6, .i .i64 1, .i .i64 0, .i .i64 6, .i .i64 1, .i .i64 0, .i .i64 4, .i .i64 1, .i .i64 0, .i .i64 4, .i .i64 1, .i .i64 0, .i .i64 4, .i .i64 1, .i .i64 0, .i .i64 4, .i .i64 1, .i .i64 0, .i .i64 4, .i .i64 1, .i .i64 0, .i .i64 4, .i .i64 1, .i .i64 0, .i .i64 3, .i .i64 1, .i .i64 0, .i .i64 3, .i .i64 1, .i .i64 0, .i .i64 3, .i .i64 1, .i .i64 0, .i .i64 3, .i .i64 1, .i .i64 0, .i .i64 3, .i .i64 1, .i .i64 0, .i .i64 3, .i .i64 1, .i .i64 0, .i .i64 2, .i .i64 1, .i .i64 0, .i .i64 2, .i .i64 1, .i .i64 0, .i .i64 1, .i .i64 2, .i .i64 0, .i .i64 9, .i .i64 2, .i .i64 0, .i .i64 9, .i .i64 2, .i .i64 0, .i .i64 9, .i .i64 2, .i .i64 0, .i .i64 9, .i .i64 1, .i .i64 2, .i .i64 11, .i .i64 1, .i .i64 2, .i .i64 11, .i .i64 2, .i .i64 2, .i .i64 28, .i .i64 3, .i .i64 2, .i .i64 37, .i .i64 3, .i .i64 3, .i .i64 104, .i .i64 2, .i .i64 0, .i .i64 12, .i .i64 2, .i .i64 0, .i .i64 6, .i .i64 2, .i .i64 0, .i .i64 2, .i .i64 2, .i .i64 0, .i .i64 3, .i .i64 3, .i .i64 0, .i .i64 8, .i .i64 3, .i .i64 0, .i .i64 15, .i .i64 3, .i .i64 0, .i .i64 40, .i .i64 3, .i .i64 2, .i .i64 25, .i .i64 3, .i .i64 2, .i .i64 76, .i .i64 3, .i .i64 3, .i .i64 999, .i .i64 3, .i .i64 3, .i .i64 999, .i .i64 3, .i .i64 3, .i .i64 999, .i .i64 2, .i .i64 0, .i .i64 3, .i .i64 2, .i .i64 0, .i .i64 3, .i .i64 2, .i .i64 0, .i .i64 3, .i .i64 4, .i .i64 0, .i .i64 8, .i .i64 1, .i .i64 0, .i .i64 16, .i .i64 2, .i .i64 3, .i .i64 120, .i .i64 3, .i .i64 3, .i .i64 999, .i .i64 3, .i .i64 3, .i .i64 999, .i .i64 3, .i .i64 3, .i .i64 999, .i .i64 3, .i .i64 3, .i .i64 999, .i .i64 3, .i .i64 3, .i .i64 999, .i .i64 3, .i .i64 3, .i .i64 999, .i .i64 3, .i .i64 3, .i .i64 999, .i .i64 3, .i .i64 3, .i .i64 999, .i .i64 3, .i .i64 3, .i .i64 999, .i .i64 4, .i .i64 0, .i .i64 8, .i .i64 0, .i .i64 0, .i .i64 0, .i .i64 1, .i .i64 0, .i .i64 1, .i .i64 1, .i .i64 0, .i .i64 2, .i .i64 1, .i .i64 0, .i .i64 3, .i .i64 1, .i .i64 0, .i .i64 3, .i .i64 1, .i .i64 0, .i .i64 3, .i .i64 1, .i .i64 0, .i .i64 4, .i .i64 1, .i .i64 0, .i .i64 4, .i .i64 1, .i .i64 0, .i .i64 6, .i .i64 1, .i .i64 0, .i .i64 10, .i .i64 1, .i .i64 0, .i .i64 10, .i .i64 1, .i .i64 0, .i .i64 10, .i .i64 1, .i .i64 0, .i .i64 10, .i .i64 1, .i .i64 0, .i .i64 10, .i .i64 1, .i .i64 0, .i .i64 10, .i .i64 1, .i .i64 0, .i .i64 10, .i .i64 1, .i .i64 0, .i .i64 10, .i .i64 1, .i .i64 0, .i .i64 12, .i .i64 1, .i .i64 0, .i .i64 12, .i .i64 1, .i .i64 0, .i .i64 12, .i .i64 1, .i .i64 0, .i .i64 12, .i .i64 1, .i .i64 0, .i .i64 16, .i .i64 1, .i .i64 0, .i .i64 16, .i .i64 1, .i .i64 0, .i .i64 16, .i .i64 1, .i .i64 0, .i .i64 16, .i .i64 1, .i .i64 0, .i .i64 42, .i .i64 2, .i .i64 0, .i .i64 1, .i .i64 2, .i .i64 0, .i .i64 2, .i .i64 2, .i .i64 0, .i .i64 5, .i .i64 2, .i .i64 0, .i .i64 7, .i .i64 2, .i .i64 0, .i .i64 42, .i .i64 4, .i .i64 0, .i .i64 8, .i .i64 2, .i .i64 0, .i .i64 17, .i .i64 3, .i .i64 0, .i .i64 25, .i .i64 1, .i .i64 2, .i .i64 11, .i .i64 1, .i .i64 2, .i .i64 11, .i .i64 3, .i .i64 2, .i .i64 17, .i .i64 3, .i .i64 2, .i .i64 28, .i .i64 3, .i .i64 2, .i .i64 28, .i .i64 3, .i .i64 3, .i .i64 100, .i .i64 3, .i .i64 3, .i .i64 999, .i .i64 3, .i .i64 3, .i .i64 999, .i .i64 3, .i .i64 3, .i .i64 999, .i .i64 3, .i .i64 3, .i .i64 999, .i .i64 3, .i .i64 3, .i .i64 999, .i .i64 3, .i .i64 3, .i .i64 999, .i .i64 3, .i .i64 3, .i .i64 999, .i .i64 3, .i .i64 3, .i .i64 999, .i .i64 3, .i .i64 3, .i .i64 999, .i .i64 3, .i .i64 3, .i .i64 999, .i .i64 3, .i .i64 3, .i .i64 999, .i .i64 3, .i .i64 3, .i .i64 999, .i .i64 3, .i .i64 3, .i .i64 999, .i .i64 3, .i .i64 3, .i .i64 999, .i .i64 3, .i .i64 3, .i .i64 999, .i .i64 3, .i .i64 3, .i .i64 999, .i .i64 3, .i .i64 3, .i .i64 999, .i .i64 3, .i .i64 3, .i .i64 999, .i .i64 3, .i .i64 3, .i .i64 999, .i .i64 3, .i .i64 3, .i .i64 999, .i .i64 3, .i .i64 3, .i .i64 999, .i .i64 3, .i .i64 3, .i .i64 999, .i .i64 3, .i .i64 3, .i .i64 999, .i .i64 4, .i .i64 0, .i .i64 8])
theorem spec_table.row_ok : RowOK P G1 spec_table.row := closed_ok e0_ok (T := [strconv_Atoi.row, strings_Fields.row, spec_read.row]) ⟨strconv_Atoi.row_ok, ⟨(strings_Fields.row_ok.more g01), ⟨spec_read.row_ok, trivial⟩⟩⟩ 400 (by kernel_rfl)
end Go.Proofs.YtiifdejnmaohlaaDoor
end
section
/- The Go function spec.Of, as a Lean function, and that it is this one. Written by a program of this session. -/
set_option linter.unusedVariables false
set_option maxRecDepth 100000
namespace Go.Proofs.YtiifdejnmaohlaaDoor
open Go Go.Fw
abbrev spec_Of.As : Shs := (.cons (.x (.i .i64)) .nil)
abbrev spec_Of.m : Back := [(false, T_api_Spec), (false, (.i .i64))]
noncomputable abbrev spec_Of.H : HK := hk P G1 E0 [spec_table.row] noLoops 4
theorem spec_Of.rows : TabOK P G1 (tabF [spec_table.row]) := rows_ok (ws := [spec_table.row]) ⟨spec_table.row_ok, trivial⟩
theorem spec_Of.hok : HKOK P spec_Of.H := hk_ok e0_ok spec_Of.rows (fun g n => noLoops_ok g n) 4
noncomputable def spec_Of.f (a : Int) : Option ((Int × (Int × Int)) × Int) := (bif (decide ((a < (0 : Int)))) then (some (((0 : Int), ((0 : Int), (0 : Int))), (7 : Int))) else (bif (decide ((a > (128 : Int)))) then (some (((0 : Int), ((0 : Int), (0 : Int))), (7 : Int))) else (bif (a == (0 : Int)) then (some (((0 : Int), ((0 : Int), (0 : Int))), (7 : Int))) else (bif (a == (1 : Int)) then (some (((0 : Int), ((0 : Int), (0 : Int))), (7 : Int))) else (bif (a == (2 : Int)) then (some (((1 : Int), ((2 : Int), (19 : Int))), (0 : Int))) else (bif (a == (3 : Int)) then (some (((1 : Int), ((0 : Int), (6 : Int))), (0 : Int))) else (bif (a == (4 : Int)) then (some (((1 : Int), ((0 : Int), (12 : Int))), (0 : Int))) else (bif (a == (5 : Int)) then (some (((1 : Int), ((0 : Int), (12 : Int))), (0 : Int))) else (bif (a == (6 : Int)) then (some (((1 : Int), ((0 : Int), (12 : Int))), (0 : Int))) else (bif (a == (7 : Int)) then (some (((1 : Int), ((0 : Int), (10 : Int))), (0 : Int))) else (bif (a == (8 : Int)) then (some (((1 : Int), ((0 : Int), (8 : Int))), (0 : Int))) else (bif (a == (9 : Int)) then (some (((1 : Int), ((0 : Int), (8 : Int))), (0 : Int))) else (bif (a == (10 : Int)) then (some (((1 : Int), ((0 : Int), (8 : Int))), (0 : Int))) else (bif (a == (11 : Int)) then (some (((1 : Int), ((0 : Int), (6 : Int))), (0 : Int))) else (bif (a == (12 : Int)) then (some (((1 : Int), ((0 : Int), (6 : Int))), (0 : Int))) else (bif (a == (13 : Int)) then (some (((1 : Int), ((0 : Int), (4 : Int))), (0 : Int))) else (bif (a == (14 : Int)) then (some (((1 : Int), ((0 : Int), (4 : Int))), (0 : Int))) else (bif (a == (15 : Int)) then (some (((1 : Int), ((0 : Int), (4 : Int))), (0 : Int))) else (bif (a == (16 : Int)) then (some (((1 : Int), ((0 : Int), (4 : Int))), (0 : Int))) else (bif (a == (17 : Int)) then (some (((1 : Int), ((0 : Int), (4 : Int))), (0 : Int))) else (bif (a == (18 : Int)) then (some (((1 : Int), ((0 : Int), (4 : Int))), (0 : Int))) else (bif (a == (19 : Int)) then (some (((1 : Int), ((0 : Int), (3 : Int))), (0 : Int))) else (bif (a == (20 : Int)) then (some (((1 : Int), ((0 : Int), (3 : Int))), (0 : Int))) else (bif (a == (21 : Int)) then (some (((1 : Int), ((0 : Int), (3 : Int))), (0 : Int))) else (bif (a == (22 : Int)) then (some (((1 : Int), ((0 : Int), (3 : Int))), (0 : Int))) else (bif (a == (23 : Int)) then (some (((1 : Int), ((0 : Int), (3 : Int))), (0 : Int))) else (bif (a == (24 : Int)) then (some (((1 : Int), ((0 : Int), (3 : Int))), (0 : Int))) else (bif (a == (25 : Int)) then (some (((1 : Int), ((0 : Int), (2 : Int))), (0 : Int))) else (bif (a == (26 : Int)) then (some (((1 : Int), ((0 : Int), (2 : Int))), (0 : Int))) else (bif (a == (27 : Int)) then (some (((1 : Int), ((0 : Int), (1 : Int))), (0 : Int))) else (bif (a == (28 : Int)) then (some (((2 : Int), ((0 : Int), (9 : Int))), (0 : Int))) else (bif (a == (29 : Int)) then (some (((2 : Int), ((0 : Int), (9 : Int))), (0 : Int))) else (bif (a == (30 : Int)) then (some (((2 : Int), ((0 : Int), (9 : Int))), (0 : Int))) else (bif (a == (31 : Int)) then (some (((2 : Int), ((0 : Int), (9 : Int))), (0 : Int))) else (bif (a == (32 : Int)) then (some (((1 : Int), ((2 : Int), (11 : Int))), (0 : Int))) else (bif (a == (33 : Int)) then (some (((1 : Int), ((2 : Int), (11 : Int))), (0 : Int))) else (bif (a == (34 : Int)) then (some (((2 : Int), ((2 : Int), (28 : Int))), (0 : Int))) else (bif (a == (35 : Int)) then (some (((3 : Int), ((2 : Int), (37 : Int))), (0 : Int))) else (bif (a == (36 : Int)) then (some (((3 : Int), ((3 : Int), (104 : Int))), (0 : Int))) else (bif (a == (37 : Int)) then (some (((2 : Int), ((0 : Int), (12 : Int))), (0 : Int))) else (bif (a == (38 : Int)) then (some (((2 : Int), ((0 : Int), (6 : Int))), (0 : Int))) else (bif (a == (39 : Int)) then (some (((2 : Int), ((0 : Int), (2 : Int))), (0 : Int))) else (bif (a == (40 : Int)) then (some (((2 : Int), ((0 : Int), (3 : Int))), (0 : Int))) else (bif (a == (41 : Int)) then (some (((3 : Int), ((0 : Int), (8 : Int))), (0 : Int))) else (bif (a == (42 : Int)) then (some (((3 : Int), ((0 : Int), (15 : Int))), (0 : Int))) else (bif (a == (43 : Int)) then (some (((3 : Int), ((0 : Int), (40 : Int))), (0 : Int))) else (bif (a == (44 : Int)) then (some (((3 : Int), ((2 : Int), (25 : Int))), (0 : Int))) else (bif (a == (45 : Int)) then (some (((3 : Int), ((2 : Int), (76 : Int))), (0 : Int))) else (bif (a == (46 : Int)) then (some (((3 : Int), ((3 : Int), (999 : Int))), (0 : Int))) else (bif (a == (47 : Int)) then (some (((3 : Int), ((3 : Int), (999 : Int))), (0 : Int))) else (bif (a == (48 : Int)) then (some (((3 : Int), ((3 : Int), (999 : Int))), (0 : Int))) else (bif (a == (49 : Int)) then (some (((2 : Int), ((0 : Int), (3 : Int))), (0 : Int))) else (bif (a == (50 : Int)) then (some (((2 : Int), ((0 : Int), (3 : Int))), (0 : Int))) else (bif (a == (51 : Int)) then (some (((2 : Int), ((0 : Int), (3 : Int))), (0 : Int))) else (bif (a == (52 : Int)) then (some (((4 : Int), ((0 : Int), (8 : Int))), (0 : Int))) else (bif (a == (53 : Int)) then (some (((1 : Int), ((0 : Int), (16 : Int))), (0 : Int))) else (bif (a == (54 : Int)) then (some (((2 : Int), ((3 : Int), (120 : Int))), (0 : Int))) else (bif (a == (55 : Int)) then (some (((3 : Int), ((3 : Int), (999 : Int))), (0 : Int))) else (bif (a == (56 : Int)) then (some (((3 : Int), ((3 : Int), (999 : Int))), (0 : Int))) else (bif (a == (57 : Int)) then (some (((3 : Int), ((3 : Int), (999 : Int))), (0 : Int))) else (bif (a == (58 : Int)) then (some (((3 : Int), ((3 : Int), (999 : Int))), (0 : Int))) else (bif (a == (59 : Int)) then (some (((3 : Int), ((3 : Int), (999 : Int))), (0 : Int))) else (bif (a == (60 : Int)) then (some (((3 : Int), ((3 : Int), (999 : Int))), (0 : Int))) else (bif (a == (61 : Int)) then (some (((3 : Int), ((3 : Int), (999 : Int))), (0 : Int))) else (bif (a == (62 : Int)) then (some (((3 : Int), ((3 : Int), (999 : Int))), (0 : Int))) else (bif (a == (63 : Int)) then (some (((3 : Int), ((3 : Int), (999 : Int))), (0 : Int))) else (bif (a == (64 : Int)) then (some (((4 : Int), ((0 : Int), (8 : Int))), (0 : Int))) else (bif (a == (65 : Int)) then (some (((0 : Int), ((0 : Int), (0 : Int))), (7 : Int))) else (bif (a == (66 : Int)) then (some (((1 : Int), ((0 : Int), (1 : Int))), (0 : Int))) else (bif (a == (67 : Int)) then (some (((1 : Int), ((0 : Int), (2 : Int))), (0 : Int))) else (bif (a == (68 : Int)) then (some (((1 : Int), ((0 : Int), (3 : Int))), (0 : Int))) else (bif (a == (69 : Int)) then (some (((1 : Int), ((0 : Int), (3 : Int))), (0 : Int))) else (bif (a == (70 : Int)) then (some (((1 : Int), ((0 : Int), (3 : Int))), (0 : Int))) else (bif (a == (71 : Int)) then (some (((1 : Int), ((0 : Int), (4 : Int))), (0 : Int))) else (bif (a == (72 : Int)) then (some (((1 : Int), ((0 : Int), (4 : Int))), (0 : Int))) else (bif (a == (73 : Int)) then (some (((1 : Int), ((0 : Int), (6 : Int))), (0 : Int))) else (bif (a == (74 : Int)) then (some (((1 : Int), ((0 : Int), (10 : Int))), (0 : Int))) else (bif (a == (75 : Int)) then (some (((1 : Int), ((0 : Int), (10 : Int))), (0 : Int))) else (bif (a == (76 : Int)) then (some (((1 : Int), ((0 : Int), (10 : Int))), (0 : Int))) else (bif (a == (77 : Int)) then (some (((1 : Int), ((0 : Int), (10 : Int))), (0 : Int))) else (bif (a == (78 : Int)) then (some (((1 : Int), ((0 : Int), (10 : Int))), (0 : Int))) else (bif (a == (79 : Int)) then (some (((1 : Int), ((0 : Int), (10 : Int))), (0 : Int))) else (bif (a == (80 : Int)) then (some (((1 : Int), ((0 : Int), (10 : Int))), (0 : Int))) else (bif (a == (81 : Int)) then (some (((1 : Int), ((0 : Int), (10 : Int))), (0 : Int))) else (bif (a == (82 : Int)) then (some (((1 : Int), ((0 : Int), (12 : Int))), (0 : Int))) else (bif (a == (83 : Int)) then (some (((1 : Int), ((0 : Int), (12 : Int))), (0 : Int))) else (bif (a == (84 : Int)) then (some (((1 : Int), ((0 : Int), (12 : Int))), (0 : Int))) else (bif (a == (85 : Int)) then (some (((1 : Int), ((0 : Int), (12 : Int))), (0 : Int))) else (bif (a == (86 : Int)) then (some (((1 : Int), ((0 : Int), (16 : Int))), (0 : Int))) else (bif (a == (87 : Int)) then (some (((1 : Int), ((0 : Int), (16 : Int))), (0 : Int))) else (bif (a == (88 : Int)) then (some (((1 : Int), ((0 : Int), (16 : Int))), (0 : Int))) else (bif (a == (89 : Int)) then (some (((1 : Int), ((0 : Int), (16 : Int))), (0 : Int))) else (bif (a == (90 : Int)) then (some (((1 : Int), ((0 : Int), (42 : Int))), (0 : Int))) else (bif (a == (91 : Int)) then (some (((2 : Int), ((0 : Int), (1 : Int))), (0 : Int))) else (bif (a == (92 : Int)) then (some (((2 : Int), ((0 : Int), (2 : Int))), (0 : Int))) else (bif (a == (93 : Int)) then (some (((2 : Int), ((0 : Int), (5 : Int))), (0 : Int))) else (bif (a == (94 : Int)) then (some (((2 : Int), ((0 : Int), (7 : Int))), (0 : Int))) else (bif (a == (95 : Int)) then (some (((2 : Int), ((0 : Int), (42 : Int))), (0 : Int))) else (bif (a == (96 : Int)) then (some (((4 : Int), ((0 : Int), (8 : Int))), (0 : Int))) else (bif (a == (97 : Int)) then (some (((2 : Int), ((0 : Int), (17 : Int))), (0 : Int))) else (bif (a == (98 : Int)) then (some (((3 : Int), ((0 : Int), (25 : Int))), (0 : Int))) else (bif (a == (99 : Int)) then (some (((1 : Int), ((2 : Int), (11 : Int))), (0 : Int))) else (bif (a == (100 : Int)) then (some (((1 : Int), ((2 : Int), (11 : Int))), (0 : Int))) else (bif (a == (101 : Int)) then (some (((3 : Int), ((2 : Int), (17 : Int))), (0 : Int))) else (bif (a == (102 : Int)) then (some (((3 : Int), ((2 : Int), (28 : Int))), (0 : Int))) else (bif (a == (103 : Int)) then (some (((3 : Int), ((2 : Int), (28 : Int))), (0 : Int))) else (bif (a == (104 : Int)) then (some (((3 : Int), ((3 : Int), (100 : Int))), (0 : Int))) else (bif (a == (105 : Int)) then (some (((3 : Int), ((3 : Int), (999 : Int))), (0 : Int))) else (bif (a == (106 : Int)) then (some (((3 : Int), ((3 : Int), (999 : Int))), (0 : Int))) else (bif (a == (107 : Int)) then (some (((3 : Int), ((3 : Int), (999 : Int))), (0 : Int))) else (bif (a == (108 : Int)) then (some (((3 : Int), ((3 : Int), (999 : Int))), (0 : Int))) else (bif (a == (109 : Int)) then (some (((3 : Int), ((3 : Int), (999 : Int))), (0 : Int))) else (bif (a == (110 : Int)) then (some (((3 : Int), ((3 : Int), (999 : Int))), (0 : Int))) else (bif (a == (111 : Int)) then (some (((3 : Int), ((3 : Int), (999 : Int))), (0 : Int))) else (bif (a == (112 : Int)) then (some (((3 : Int), ((3 : Int), (999 : Int))), (0 : Int))) else (bif (a == (113 : Int)) then (some (((3 : Int), ((3 : Int), (999 : Int))), (0 : Int))) else (bif (a == (114 : Int)) then (some (((3 : Int), ((3 : Int), (999 : Int))), (0 : Int))) else (bif (a == (115 : Int)) then (some (((3 : Int), ((3 : Int), (999 : Int))), (0 : Int))) else (bif (a == (116 : Int)) then (some (((3 : Int), ((3 : Int), (999 : Int))), (0 : Int))) else (bif (a == (117 : Int)) then (some (((3 : Int), ((3 : Int), (999 : Int))), (0 : Int))) else (bif (a == (118 : Int)) then (some (((3 : Int), ((3 : Int), (999 : Int))), (0 : Int))) else (bif (a == (119 : Int)) then (some (((3 : Int), ((3 : Int), (999 : Int))), (0 : Int))) else (bif (a == (120 : Int)) then (some (((3 : Int), ((3 : Int), (999 : Int))), (0 : Int))) else (bif (a == (121 : Int)) then (some (((3 : Int), ((3 : Int), (999 : Int))), (0 : Int))) else (bif (a == (122 : Int)) then (some (((3 : Int), ((3 : Int), (999 : Int))), (0 : Int))) else (bif (a == (123 : Int)) then (some (((3 : Int), ((3 : Int), (999 : Int))), (0 : Int))) else (bif (a == (124 : Int)) then (some (((3 : Int), ((3 : Int), (999 : Int))), (0 : Int))) else (bif (a == (125 : Int)) then (some (((3 : Int), ((3 : Int), (999 : Int))), (0 : Int))) else (bif (a == (126 : Int)) then (some (((3 : Int), ((3 : Int), (999 : Int))), (0 : Int))) else (bif (a == (127 : Int)) then (some (((3 : Int), ((3 : Int), (999 : Int))), (0 : Int))) else (bif (a == (128 : Int)) then (some (((4 : Int), ((0 : Int), (8 : Int))), (0 : Int))) else none)))))))))))))))))))))))))))))))))))))))))))))))))))))))))))))))))))))))))))))))))))))))))))))))))))))))))))))))))))))))))))))))))))
theorem spec_Of.ok : ∀ a : Vals spec_Of.As.tys, fnK P spec_Of.H (lp []) 19 spec_Of.As spec_Of.m a some = spec_Of.f a := fun a => by kernel_rfl
noncomputable abbrev spec_Of.row : Row := fnRow 19 spec_Of.As spec_Of.m spec_Of.f
theorem spec_Of.row_ok : RowOK P G1 spec_Of.row := row_told spec_Of.hok (lp_of (l := []) trivial) (fun _ => rfl) spec_Of.ok
end Go.Proofs.YtiifdejnmaohlaaDoor
end
section
/- The Go function spec.pure, as a Lean function, and that it is this one. Written by a program of this session. -/
set_option linter.unusedVariables false
set_option maxRecDepth 100000
namespace Go.Proofs.YtiifdejnmaohlaaDoor
open Go Go.Fw
abbrev spec_pure.As : Shs := (.cons (.x T_api_Spec) (.cons (.x .s) .nil))
abbrev spec_pure.m : Back := [(false, .b)]
noncomputable abbrev spec_pure.H : HK := hk P G0 E0 [spec_kinds.row] noLoops 4
theorem spec_pure.rows : TabOK P G0 (tabF [spec_kinds.row]) := rows_ok (ws := [spec_kinds.row]) ⟨spec_kinds.row_ok, trivial⟩
theorem spec_pure.hok : HKOK P spec_pure.H := hk_ok e0_ok spec_pure.rows (fun g n => noLoops_ok g n) 4
abbrev spec_pure.sh4 : SSh := ⟨[(1, (.x .s)), (5, (.c 1)), (13, (.x (.i .i64))), (14, (.x (.i .i64)))], []⟩
abbrev spec_pure.os4 : PEnds := [((.exit 0), ⟨[], []⟩)]
noncomputable def spec_pure.t4 (s : (ByteArray × (Int × Int))) : Option ((ByteArray × (Int × Int)) ⊕ (Unit)) := (bif (decide ((s.2.2 < s.2.1))) then (bif ((decide (((0 : Int) ≤ s.2.2))) && (decide ((s.2.2 < (s.1.size : Int))))) then none else none) else (some (.inr ())))
theorem spec_pure.t4_ok : ∀ s : Vals spec_pure.sh4.tys, turnK P spec_pure.H (lp []) (bodyAt (codeOf P 38) 4) 0 spec_pure.sh4 spec_pure.os4 s some = spec_pure.t4 s := fun s => by kernel_rfl
noncomputable def spec_pure.l4 : (ByteArray × (Int × Int)) → Option (Unit) := rounds spec_pure.t4
abbrev spec_pure.sh4b : SSh := ⟨[(1, (.x .s)), (5, (.fn 62 .nil)), (13, (.x (.i .i64))), (14, (.x (.i .i64)))], []⟩
abbrev spec_pure.os4b : PEnds := [(.ret, ⟨[(4, (.x .b))], []⟩), ((.exit 0), ⟨[], []⟩)]
noncomputable def spec_pure.t4b (s : (ByteArray × (Int × Int))) : Option ((ByteArray × (Int × Int)) ⊕ (Bool ⊕ Unit)) := (bif (decide ((s.2.2 < s.2.1))) then (bif ((decide (((0 : Int) ≤ s.2.2))) && (decide ((s.2.2 < (s.1.size : Int))))) then (bif (decide (((bt s.1 (Int.toNat s.2.2)) ≥ (48 : Int)))) then (bif (!(decide (((bt s.1 (Int.toNat s.2.2)) ≤ (57 : Int))))) then (some (.inr (.inl false))) else (some (.inl (s.1, (s.2.1, (IntKind.wrap .i64 (s.2.2 + (1 : Int)))))))) else (some (.inr (.inl false)))) else none) else (some (.inr (.inr ()))))
theorem spec_pure.t4b_ok : ∀ s : Vals spec_pure.sh4b.tys, turnK P spec_pure.H (lp []) (bodyAt (codeOf P 38) 4) 0 spec_pure.sh4b spec_pure.os4b s some = spec_pure.t4b s := fun s => by kernel_rfl
noncomputable def spec_pure.l4b : (ByteArray × (Int × Int)) → Option (Bool ⊕ Unit) := rounds spec_pure.t4b
abbrev spec_pure.sh4c : SSh := ⟨[(1, (.x .s)), (5, (.fn 63 .nil)), (13, (.x (.i .i64))), (14, (.x (.i .i64)))], []⟩
abbrev spec_pure.os4c : PEnds := [(.ret, ⟨[(4, (.x .b))], []⟩), ((.exit 0), ⟨[], []⟩)]
noncomputable def spec_pure.t4c (s : (ByteArray × (Int × Int))) : Option ((ByteArray × (Int × Int)) ⊕ (Bool ⊕ Unit)) := (bif (decide ((s.2.2 < s.2.1))) then (bif ((decide (((0 : Int) ≤ s.2.2))) && (decide ((s.2.2 < (s.1.size : Int))))) then (bif (decide (((bt s.1 (Int.toNat s.2.2)) ≥ (48 : Int)))) then (bif (decide (((bt s.1 (Int.toNat s.2.2)) ≤ (57 : Int)))) then (some (.inl (s.1, (s.2.1, (IntKind.wrap .i64 (s.2.2 + (1 : Int))))))) else (bif (decide (((bitsOp Go.BinOp.or Go.IntKind.u8 (bt s.1 (Int.toNat s.2.2)) (32 : Int)) ≥ (97 : Int)))) then (bif (decide (((bitsOp Go.BinOp.or Go.IntKind.u8 (bt s.1 (Int.toNat s.2.2)) (32 : Int)) ≤ (122 : Int)))) then (some (.inl (s.1, (s.2.1, (IntKind.wrap .i64 (s.2.2 + (1 : Int))))))) else (bif (!((bt s.1 (Int.toNat s.2.2)) == (32 : Int))) then (some (.inr (.inl false))) else (some (.inl (s.1, (s.2.1, (IntKind.wrap .i64 (s.2.2 + (1 : Int))))))))) else (bif (!((bt s.1 (Int.toNat s.2.2)) == (32 : Int))) then (some (.inr (.inl false))) else (some (.inl (s.1, (s.2.1, (IntKind.wrap .i64 (s.2.2 + (1 : Int)))))))))) else (bif (decide (((bitsOp Go.BinOp.or Go.IntKind.u8 (bt s.1 (Int.toNat s.2.2)) (32 : Int)) ≥ (97 : Int)))) then (bif (decide (((bitsOp Go.BinOp.or Go.IntKind.u8 (bt s.1 (Int.toNat s.2.2)) (32 : Int)) ≤ (122 : Int)))) then (some (.inl (s.1, (s.2.1, (IntKind.wrap .i64 (s.2.2 + (1 : Int))))))) else (bif (!((bt s.1 (Int.toNat s.2.2)) == (32 : Int))) then (some (.inr (.inl false))) else (some (.inl (s.1, (s.2.1, (IntKind.wrap .i64 (s.2.2 + (1 : Int))))))))) else (bif (!((bt s.1 (Int.toNat s.2.2)) == (32 : Int))) then (some (.inr (.inl false))) else (some (.inl (s.1, (s.2.1, (IntKind.wrap .i64 (s.2.2 + (1 : Int)))))))))) else none) else (some (.inr (.inr ()))))
theorem spec_pure.t4c_ok : ∀ s : Vals spec_pure.sh4c.tys, turnK P spec_pure.H (lp []) (bodyAt (codeOf P 38) 4) 0 spec_pure.sh4c spec_pure.os4c s some = spec_pure.t4c s := fun s => by kernel_rfl
noncomputable def spec_pure.l4c : (ByteArray × (Int × Int)) → Option (Bool ⊕ Unit) := rounds spec_pure.t4c
abbrev spec_pure.sh4d : SSh := ⟨[(1, (.x .s)), (5, (.fn 65 .nil)), (13, (.x (.i .i64))), (14, (.x (.i .i64)))], []⟩
abbrev spec_pure.os4d : PEnds := [(.ret, ⟨[(4, (.x .b))], []⟩), ((.exit 0), ⟨[], []⟩)]
noncomputable def spec_pure.t4d (s : (ByteArray × (Int × Int))) : Option ((ByteArray × (Int × Int)) ⊕ (Bool ⊕ Unit)) := (bif (decide ((s.2.2 < s.2.1))) then (bif ((decide (((0 : Int) ≤ s.2.2))) && (decide ((s.2.2 < (s.1.size : Int))))) then (bif (decide (((bt s.1 (Int.toNat s.2.2)) ≥ (32 : Int)))) then (bif (!(decide (((bt s.1 (Int.toNat s.2.2)) ≤ (126 : Int))))) then (some (.inr (.inl false))) else (some (.inl (s.1, (s.2.1, (IntKind.wrap .i64 (s.2.2 + (1 : Int)))))))) else (some (.inr (.inl false)))) else none) else (some (.inr (.inr ()))))
theorem spec_pure.t4d_ok : ∀ s : Vals spec_pure.sh4d.tys, turnK P spec_pure.H (lp []) (bodyAt (codeOf P 38) 4) 0 spec_pure.sh4d spec_pure.os4d s some = spec_pure.t4d s := fun s => by kernel_rfl
noncomputable def spec_pure.l4d : (ByteArray × (Int × Int)) → Option (Bool ⊕ Unit) := rounds spec_pure.t4d
abbrev spec_pure.sh4e : SSh := ⟨[(1, (.x .s)), (5, (.fn 66 .nil)), (13, (.x (.i .i64))), (14, (.x (.i .i64)))], []⟩
abbrev spec_pure.os4e : PEnds := [((.exit 0), ⟨[], []⟩)]
noncomputable def spec_pure.t4e (s : (ByteArray × (Int × Int))) : Option ((ByteArray × (Int × Int)) ⊕ (Unit)) := (bif (decide ((s.2.2 < s.2.1))) then (bif ((decide (((0 : Int) ≤ s.2.2))) && (decide ((s.2.2 < (s.1.size : Int))))) then (some (.inl (s.1, (s.2.1, (IntKind.wrap .i64 (s.2.2 + (1 : Int))))))) else none) else (some (.inr ())))
theorem spec_pure.t4e_ok : ∀ s : Vals spec_pure.sh4e.tys, turnK P spec_pure.H (lp []) (bodyAt (codeOf P 38) 4) 0 spec_pure.sh4e spec_pure.os4e s some = spec_pure.t4e s := fun s => by kernel_rfl
noncomputable def spec_pure.l4e : (ByteArray × (Int × Int)) → Option (Unit) := rounds spec_pure.t4e
noncomputable def spec_pure.f (a : ((Int × (Int × Int)) × ByteArray)) : Option Bool := (bif (a.1.1 == (0 : Int)) then (((spec_pure.l4 (a.2, ((a.2.size : Int), (0 : Int))))).bind fun (x2 : PUnit) => (some true)) else (bif (a.1.1 == (1 : Int)) then (((spec_pure.l4b (a.2, ((a.2.size : Int), (0 : Int))))).bind fun (x2 : (Bool ⊕ PUnit)) => (match x2 with | .inl x3 => (some x3) | .inr x3 => (some true))) else (bif (a.1.1 == (2 : Int)) then (((spec_pure.l4c (a.2, ((a.2.size : Int), (0 : Int))))).bind fun (x2 : (Bool ⊕ PUnit)) => (match x2 with | .inl x3 => (some x3) | .inr x3 => (some true))) else (bif (a.1.1 == (3 : Int)) then (((spec_pure.l4d (a.2, ((a.2.size : Int), (0 : Int))))).bind fun (x2 : (Bool ⊕ PUnit)) => (match x2 with | .inl x3 => (some x3) | .inr x3 => (some true))) else (bif (a.1.1 == (4 : Int)) then (((spec_pure.l4e (a.2, ((a.2.size : Int), (0 : Int))))).bind fun (x2 : PUnit) => (some true)) else none)))))
theorem spec_pure.ok : ∀ a : Vals spec_pure.As.tys, fnK P spec_pure.H (lp [(4, (orS 0 spec_pure.sh4 (NodeT.summ ⟨spec_pure.sh4, spec_pure.os4, spec_pure.l4⟩ 0) (orS 0 spec_pure.sh4b (NodeT.summ ⟨spec_pure.sh4b, spec_pure.os4b, spec_pure.l4b⟩ 0) (orS 0 spec_pure.sh4c (NodeT.summ ⟨spec_pure.sh4c, spec_pure.os4c, spec_pure.l4c⟩ 0) (orS 0 spec_pure.sh4d (NodeT.summ ⟨spec_pure.sh4d, spec_pure.os4d, spec_pure.l4d⟩ 0) (NodeT.summ ⟨spec_pure.sh4e, spec_pure.os4e, spec_pure.l4e⟩ 0))))))]) 38 spec_pure.As spec_pure.m a some = spec_pure.f a := fun a => by kernel_rfl
noncomputable abbrev spec_pure.row : Row := fnRow 38 spec_pure.As spec_pure.m spec_pure.f
theorem spec_pure.row_ok : RowOK P G0 spec_pure.row := row_told spec_pure.hok (lp_of (l := [(4, (orS 0 spec_pure.sh4 (NodeT.summ ⟨spec_pure.sh4, spec_pure.os4, spec_pure.l4⟩ 0) (orS 0 spec_pure.sh4b (NodeT.summ ⟨spec_pure.sh4b, spec_pure.os4b, spec_pure.l4b⟩ 0) (orS 0 spec_pure.sh4c (NodeT.summ ⟨spec_pure.sh4c, spec_pure.os4c, spec_pure.l4c⟩ 0) (orS 0 spec_pure.sh4d (NodeT.summ ⟨spec_pure.sh4d, spec_pure.os4d, spec_pure.l4d⟩ 0) (NodeT.summ ⟨spec_pure.sh4e, spec_pure.os4e, spec_pure.l4e⟩ 0))))))]) ⟨(or_sum (loop_sum spec_pure.hok (by kernel_rfl) (by kernel_rfl) (l := []) trivial spec_pure.sh4 spec_pure.os4 (by kernel_rfl) spec_pure.t4 spec_pure.t4_ok) (or_sum (loop_sum spec_pure.hok (by kernel_rfl) (by kernel_rfl) (l := []) trivial spec_pure.sh4b spec_pure.os4b (by kernel_rfl) spec_pure.t4b spec_pure.t4b_ok) (or_sum (loop_sum spec_pure.hok (by kernel_rfl) (by kernel_rfl) (l := []) trivial spec_pure.sh4c spec_pure.os4c (by kernel_rfl) spec_pure.t4c spec_pure.t4c_ok) (or_sum (loop_sum spec_pure.hok (by kernel_rfl) (by kernel_rfl) (l := []) trivial spec_pure.sh4d spec_pure.os4d (by kernel_rfl) spec_pure.t4d spec_pure.t4d_ok) (loop_sum spec_pure.hok (by kernel_rfl) (by kernel_rfl) (l := []) trivial spec_pure.sh4e spec_pure.os4e (by kernel_rfl) spec_pure.t4e spec_pure.t4e_ok))))), trivial⟩) (fun _ => rfl) spec_pure.ok
end Go.Proofs.YtiifdejnmaohlaaDoor
end
section
/- The Go function bursarref16.in, as a Lean function, and that it is this one. Written by a program of this session. -/
set_option linter.unusedVariables false
set_option maxRecDepth 100000
namespace Go.Proofs.YtiifdejnmaohlaaDoor
open Go Go.Fw
abbrev bursarref16_in.As : Shs := (.cons (.x (.i .i64)) (.cons (.x (.i .i64)) (.cons (.x (.i .i64)) .nil)))
abbrev bursarref16_in.m : Back := [(false, .b)]
noncomputable abbrev bursarref16_in.H : HK := hk P G0 E0 [] noLoops 4
theorem bursarref16_in.rows : TabOK P G0 (tabF []) := rows_ok (ws := []) trivial
theorem bursarref16_in.hok : HKOK P bursarref16_in.H := hk_ok e0_ok bursarref16_in.rows (fun g n => noLoops_ok g n) 4
noncomputable def bursarref16_in.f (a : (Int × (Int × Int))) : Option Bool := (bif (decide ((a.2.1 ≤ a.1))) then (some (decide ((a.1 ≤ a.2.2)))) else (some false))
theorem bursarref16_in.ok : ∀ a : Vals bursarref16_in.As.tys, fnK P bursarref16_in.H (lp []) 45 bursarref16_in.As bursarref16_in.m a some = bursarref16_in.f a := fun a => by kernel_rfl
noncomputable abbrev bursarref16_in.row : Row := fnRow 45 bursarref16_in.As bursarref16_in.m bursarref16_in.f
theorem bursarref16_in.row_ok : RowOK P G0 bursarref16_in.row := row_told bursarref16_in.hok (lp_of (l := []) trivial) (fun _ => rfl) bursarref16_in.ok
end Go.Proofs.YtiifdejnmaohlaaDoor
end
section
/- The Go function bursarref16.Of, as a Lean function, and that it is this one. Written by a program of this session. -/
set_option linter.unusedVariables false
set_option maxRecDepth 100000
namespace Go.Proofs.YtiifdejnmaohlaaDoor
open Go Go.Fw
abbrev bursarref16_Of.As : Shs := (.cons (.x (.i .i64)) .nil)
abbrev bursarref16_Of.m : Back := [(false, T_api_Spec)]
noncomputable abbrev bursarref16_Of.H : HK := hk P G0 E0 [bursarref16_in.row] noLoops 4
theorem bursarref16_Of.rows : TabOK P G0 (tabF [bursarref16_in.row]) := rows_ok (ws := [bursarref16_in.row]) ⟨bursarref16_in.row_ok, trivial⟩
theorem bursarref16_Of.hok : HKOK P bursarref16_Of.H := hk_ok e0_ok bursarref16_Of.rows (fun g n => noLoops_ok g n) 4
noncomputable def bursarref16_Of.f (a : Int) : Option (Int × (Int × Int)) := (bif (a == (2 : Int)) then (some ((1 : Int), ((2 : Int), (19 : Int)))) else (bif (a == (3 : Int)) then (some ((1 : Int), ((0 : Int), (6 : Int)))) else (bif (a == (11 : Int)) then (some ((1 : Int), ((0 : Int), (6 : Int)))) else (bif (a == (12 : Int)) then (some ((1 : Int), ((0 : Int), (6 : Int)))) else (bif (a == (73 : Int)) then (some ((1 : Int), ((0 : Int), (6 : Int)))) else (((bursarref16_in.f (a, ((4 : Int), (6 : Int))))).bind fun (x1 : Bool) => (bif x1 then (some ((1 : Int), ((0 : Int), (12 : Int)))) else (((bursarref16_in.f (a, ((82 : Int), (85 : Int))))).bind fun (x2 : Bool) => (bif x2 then (some ((1 : Int), ((0 : Int), (12 : Int)))) else (bif (a == (7 : Int)) then (some ((1 : Int), ((0 : Int), (10 : Int)))) else (((bursarref16_in.f (a, ((74 : Int), (81 : Int))))).bind fun (x3 : Bool) => (bif x3 then (some ((1 : Int), ((0 : Int), (10 : Int)))) else (((bursarref16_in.f (a, ((8 : Int), (10 : Int))))).bind fun (x4 : Bool) => (bif x4 then (some ((1 : Int), ((0 : Int), (8 : Int)))) else (((bursarref16_in.f (a, ((13 : Int), (18 : Int))))).bind fun (x5 : Bool) => (bif x5 then (some ((1 : Int), ((0 : Int), (4 : Int)))) else (bif (a == (71 : Int)) then (some ((1 : Int), ((0 : Int), (4 : Int)))) else (bif (a == (72 : Int)) then (some ((1 : Int), ((0 : Int), (4 : Int)))) else (((bursarref16_in.f (a, ((19 : Int), (24 : Int))))).bind fun (x6 : Bool) => (bif x6 then (some ((1 : Int), ((0 : Int), (3 : Int)))) else (((bursarref16_in.f (a, ((68 : Int), (70 : Int))))).bind fun (x7 : Bool) => (bif x7 then (some ((1 : Int), ((0 : Int), (3 : Int)))) else (bif (a == (25 : Int)) then (some ((1 : Int), ((0 : Int), (2 : Int)))) else (bif (a == (26 : Int)) then (some ((1 : Int), ((0 : Int), (2 : Int)))) else (bif (a == (67 : Int)) then (some ((1 : Int), ((0 : Int), (2 : Int)))) else (bif (a == (27 : Int)) then (some ((1 : Int), ((0 : Int), (1 : Int)))) else (bif (a == (66 : Int)) then (some ((1 : Int), ((0 : Int), (1 : Int)))) else (((bursarref16_in.f (a, ((28 : Int), (31 : Int))))).bind fun (x8 : Bool) => (bif x8 then (some ((2 : Int), ((0 : Int), (9 : Int)))) else (bif (a == (32 : Int)) then (some ((1 : Int), ((2 : Int), (11 : Int)))) else (bif (a == (33 : Int)) then (some ((1 : Int), ((2 : Int), (11 : Int)))) else (bif (a == (99 : Int)) then (some ((1 : Int), ((2 : Int), (11 : Int)))) else (bif (a == (100 : Int)) then (some ((1 : Int), ((2 : Int), (11 : Int)))) else (bif (a == (34 : Int)) then (some ((2 : Int), ((2 : Int), (28 : Int)))) else (bif (a == (35 : Int)) then (some ((3 : Int), ((2 : Int), (37 : Int)))) else (bif (a == (36 : Int)) then (some ((3 : Int), ((3 : Int), (104 : Int)))) else (bif (a == (37 : Int)) then (some ((2 : Int), ((0 : Int), (12 : Int)))) else (bif (a == (38 : Int)) then (some ((2 : Int), ((0 : Int), (6 : Int)))) else (bif (a == (39 : Int)) then (some ((2 : Int), ((0 : Int), (2 : Int)))) else (bif (a == (92 : Int)) then (some ((2 : Int), ((0 : Int), (2 : Int)))) else (bif (a == (40 : Int)) then (some ((2 : Int), ((0 : Int), (3 : Int)))) else (((bursarref16_in.f (a, ((49 : Int), (51 : Int))))).bind fun (x9 : Bool) => (bif x9 then (some ((2 : Int), ((0 : Int), (3 : Int)))) else (bif (a == (41 : Int)) then (some ((3 : Int), ((0 : Int), (8 : Int)))) else (bif (a == (42 : Int)) then (some ((3 : Int), ((0 : Int), (15 : Int)))) else (bif (a == (43 : Int)) then (some ((3 : Int), ((0 : Int), (40 : Int)))) else (bif (a == (44 : Int)) then (some ((3 : Int), ((2 : Int), (25 : Int)))) else (bif (a == (45 : Int)) then (some ((3 : Int), ((2 : Int), (76 : Int)))) else (((bursarref16_in.f (a, ((46 : Int), (48 : Int))))).bind fun (x10 : Bool) => (bif x10 then (some ((3 : Int), ((3 : Int), (999 : Int)))) else (((bursarref16_in.f (a, ((55 : Int), (63 : Int))))).bind fun (x11 : Bool) => (bif x11 then (some ((3 : Int), ((3 : Int), (999 : Int)))) else (((bursarref16_in.f (a, ((105 : Int), (127 : Int))))).bind fun (x12 : Bool) => (bif x12 then (some ((3 : Int), ((3 : Int), (999 : Int)))) else (bif (a == (52 : Int)) then (some ((4 : Int), ((0 : Int), (8 : Int)))) else (bif (a == (64 : Int)) then (some ((4 : Int), ((0 : Int), (8 : Int)))) else (bif (a == (96 : Int)) then (some ((4 : Int), ((0 : Int), (8 : Int)))) else (bif (a == (128 : Int)) then (some ((4 : Int), ((0 : Int), (8 : Int)))) else (bif (a == (53 : Int)) then (some ((1 : Int), ((0 : Int), (16 : Int)))) else (((bursarref16_in.f (a, ((86 : Int), (89 : Int))))).bind fun (x13 : Bool) => (bif x13 then (some ((1 : Int), ((0 : Int), (16 : Int)))) else (bif (a == (54 : Int)) then (some ((2 : Int), ((3 : Int), (120 : Int)))) else (bif (a == (90 : Int)) then (some ((1 : Int), ((0 : Int), (42 : Int)))) else (bif (a == (91 : Int)) then (some ((2 : Int), ((0 : Int), (1 : Int)))) else (bif (a == (93 : Int)) then (some ((2 : Int), ((0 : Int), (5 : Int)))) else (bif (a == (94 : Int)) then (some ((2 : Int), ((0 : Int), (7 : Int)))) else (bif (a == (95 : Int)) then (some ((2 : Int), ((0 : Int), (42 : Int)))) else (bif (a == (97 : Int)) then (some ((2 : Int), ((0 : Int), (17 : Int)))) else (bif (a == (98 : Int)) then (some ((3 : Int), ((0 : Int), (25 : Int)))) else (bif (a == (101 : Int)) then (some ((3 : Int), ((2 : Int), (17 : Int)))) else (bif (a == (102 : Int)) then (some ((3 : Int), ((2 : Int), (28 : Int)))) else (bif (a == (103 : Int)) then (some ((3 : Int), ((2 : Int), (28 : Int)))) else (bif (a == (104 : Int)) then (some ((3 : Int), ((3 : Int), (100 : Int)))) else (some ((0 : Int), ((0 : Int), (0 : Int)))))))))))))))))))))))))))))))))))))))))))))))))))))))))))))))))))))))))))))
theorem bursarref16_Of.ok : ∀ a : Vals bursarref16_Of.As.tys, fnK P bursarref16_Of.H (lp []) 27 bursarref16_Of.As bursarref16_Of.m a some = bursarref16_Of.f a := fun a => by kernel_rfl
noncomputable abbrev bursarref16_Of.row : Row := fnRow 27 bursarref16_Of.As bursarref16_Of.m bursarref16_Of.f
theorem bursarref16_Of.row_ok : RowOK P G0 bursarref16_Of.row := row_told bursarref16_Of.hok (lp_of (l := []) trivial) (fun _ => rfl) bursarref16_Of.ok
end Go.Proofs.YtiifdejnmaohlaaDoor
end
section
/- The Go function bursarref16.pure, as a Lean function, and that it is this one. Written by a program of this session. -/
set_option linter.unusedVariables false
set_option maxRecDepth 100000
namespace Go.Proofs.YtiifdejnmaohlaaDoor
open Go Go.Fw
abbrev bursarref16_pure.As : Shs := (.cons (.x (.i .i64)) (.cons (.x .s) .nil))
abbrev bursarref16_pure.m : Back := [(false, .b)]
noncomputable abbrev bursarref16_pure.H : HK := hk P G0 E0 [] noLoops 4
theorem bursarref16_pure.rows : TabOK P G0 (tabF []) := rows_ok (ws := []) trivial
theorem bursarref16_pure.hok : HKOK P bursarref16_pure.H := hk_ok e0_ok bursarref16_pure.rows (fun g n => noLoops_ok g n) 4
abbrev bursarref16_pure.sh3 : SSh := ⟨[(0, (.x (.i .i64))), (1, (.x .s)), (5, (.x (.i .i64)))], []⟩
abbrev bursarref16_pure.sh3_4 : SSh := ⟨[(0, (.x (.i .i64))), (1, (.x .s)), (5, (.x (.i .i64))), (6, (.x (.i .u8)))], []⟩
abbrev bursarref16_pure.os3_4 : PEnds := [(.n, ⟨[(0, (.x (.i .i64))), (1, (.x .s)), (5, (.x (.i .i64))), (6, (.x (.i .u8))), (7, (.x .b))], []⟩)]
noncomputable def bursarref16_pure.l3_4 (s : (Int × (ByteArray × (Int × Int)))) : Option ((Int × (ByteArray × (Int × (Int × Bool))))) := (bif (decide (((48 : Int) ≤ s.2.2.2))) then (some (s.1, (s.2.1, (s.2.2.1, (s.2.2.2, (decide ((s.2.2.2 ≤ (57 : Int))))))))) else (some (s.1, (s.2.1, (s.2.2.1, (s.2.2.2, false))))))
theorem bursarref16_pure.l3_4_ok : ∀ s : Vals bursarref16_pure.sh3_4.tys, nodeK P bursarref16_pure.H (lp []) (placeAt (bodyAt (codeOf P 39) 3) 4) 0 bursarref16_pure.sh3_4 bursarref16_pure.os3_4 s some = bursarref16_pure.l3_4 s := fun s => by kernel_rfl
abbrev bursarref16_pure.sh3_5 : SSh := ⟨[(0, (.x (.i .i64))), (1, (.x .s)), (5, (.x (.i .i64))), (6, (.x (.i .u8))), (7, (.x .b))], []⟩
abbrev bursarref16_pure.os3_5 : PEnds := [(.n, ⟨[(0, (.x (.i .i64))), (1, (.x .s)), (5, (.x (.i .i64))), (6, (.x (.i .u8))), (7, (.x .b)), (8, (.x .b))], []⟩)]
noncomputable def bursarref16_pure.l3_5 (s : (Int × (ByteArray × (Int × (Int × Bool))))) : Option ((Int × (ByteArray × (Int × (Int × (Bool × Bool)))))) := (bif (decide (((65 : Int) ≤ s.2.2.2.1))) then (bif (decide ((s.2.2.2.1 ≤ (90 : Int)))) then (some (s.1, (s.2.1, (s.2.2.1, (s.2.2.2.1, (s.2.2.2.2, true)))))) else (bif (decide (((97 : Int) ≤ s.2.2.2.1))) then (bif (decide ((s.2.2.2.1 ≤ (122 : Int)))) then (some (s.1, (s.2.1, (s.2.2.1, (s.2.2.2.1, (s.2.2.2.2, true)))))) else (some (s.1, (s.2.1, (s.2.2.1, (s.2.2.2.1, (s.2.2.2.2, (s.2.2.2.1 == (32 : Int))))))))) else (some (s.1, (s.2.1, (s.2.2.1, (s.2.2.2.1, (s.2.2.2.2, (s.2.2.2.1 == (32 : Int)))))))))) else (bif (decide (((97 : Int) ≤ s.2.2.2.1))) then (bif (decide ((s.2.2.2.1 ≤ (122 : Int)))) then (some (s.1, (s.2.1, (s.2.2.1, (s.2.2.2.1, (s.2.2.2.2, true)))))) else (some (s.1, (s.2.1, (s.2.2.1, (s.2.2.2.1, (s.2.2.2.2, (s.2.2.2.1 == (32 : Int))))))))) else (some (s.1, (s.2.1, (s.2.2.1, (s.2.2.2.1, (s.2.2.2.2, (s.2.2.2.1 == (32 : Int))))))))))
theorem bursarref16_pure.l3_5_ok : ∀ s : Vals bursarref16_pure.sh3_5.tys, nodeK P bursarref16_pure.H (lp []) (placeAt (bodyAt (codeOf P 39) 3) 5) 0 bursarref16_pure.sh3_5 bursarref16_pure.os3_5 s some = bursarref16_pure.l3_5 s := fun s => by kernel_rfl
abbrev bursarref16_pure.sh3_6 : SSh := ⟨[(0, (.x (.i .i64))), (1, (.x .s)), (5, (.x (.i .i64))), (6, (.x (.i .u8))), (7, (.x .b)), (8, (.x .b))], []⟩
abbrev bursarref16_pure.os3_6 : PEnds := [(.n, ⟨[(0, (.x (.i .i64))), (1, (.x .s)), (5, (.x (.i .i64))), (7, (.x .b)), (8, (.x .b)), (9, (.x .b))], []⟩)]
noncomputable def bursarref16_pure.l3_6 (s : (Int × (ByteArray × (Int × (Int × (Bool × Bool)))))) : Option ((Int × (ByteArray × (Int × (Bool × (Bool × Bool)))))) := (bif (decide (((32 : Int) ≤ s.2.2.2.1))) then (some (s.1, (s.2.1, (s.2.2.1, (s.2.2.2.2.1, (s.2.2.2.2.2, (decide ((s.2.2.2.1 ≤ (126 : Int)))))))))) else (some (s.1, (s.2.1, (s.2.2.1, (s.2.2.2.2.1, (s.2.2.2.2.2, false)))))))
theorem bursarref16_pure.l3_6_ok : ∀ s : Vals bursarref16_pure.sh3_6.tys, nodeK P bursarref16_pure.H (lp []) (placeAt (bodyAt (codeOf P 39) 3) 6) 0 bursarref16_pure.sh3_6 bursarref16_pure.os3_6 s some = bursarref16_pure.l3_6 s := fun s => by kernel_rfl
abbrev bursarref16_pure.sh3_7 : SSh := ⟨[(0, (.x (.i .i64))), (1, (.x .s)), (5, (.x (.i .i64))), (7, (.x .b)), (8, (.x .b)), (9, (.x .b))], []⟩
abbrev bursarref16_pure.os3_7 : PEnds := [(.n, ⟨[(0, (.x (.i .i64))), (1, (.x .s)), (5, (.x (.i .i64))), (74, (.x .b))], []⟩)]
noncomputable def bursarref16_pure.l3_7 (s : (Int × (ByteArray × (Int × (Bool × (Bool × Bool)))))) : Option ((Int × (ByteArray × (Int × Bool)))) := (bif (s.1 == (1 : Int)) then (bif (!s.2.2.2.1) then (some (s.1, (s.2.1, (s.2.2.1, true)))) else (bif (s.1 == (2 : Int)) then (bif (!s.2.2.2.1) then (bif (!s.2.2.2.2.1) then (some (s.1, (s.2.1, (s.2.2.1, true)))) else (bif (s.1 == (3 : Int)) then (some (s.1, (s.2.1, (s.2.2.1, (!s.2.2.2.2.2))))) else (some (s.1, (s.2.1, (s.2.2.1, false)))))) else (bif (s.1 == (3 : Int)) then (some (s.1, (s.2.1, (s.2.2.1, (!s.2.2.2.2.2))))) else (some (s.1, (s.2.1, (s.2.2.1, false)))))) else (bif (s.1 == (3 : Int)) then (some (s.1, (s.2.1, (s.2.2.1, (!s.2.2.2.2.2))))) else (some (s.1, (s.2.1, (s.2.2.1, false))))))) else (bif (s.1 == (2 : Int)) then (bif (!s.2.2.2.1) then (bif (!s.2.2.2.2.1) then (some (s.1, (s.2.1, (s.2.2.1, true)))) else (bif (s.1 == (3 : Int)) then (some (s.1, (s.2.1, (s.2.2.1, (!s.2.2.2.2.2))))) else (some (s.1, (s.2.1, (s.2.2.1, false)))))) else (bif (s.1 == (3 : Int)) then (some (s.1, (s.2.1, (s.2.2.1, (!s.2.2.2.2.2))))) else (some (s.1, (s.2.1, (s.2.2.1, false)))))) else (bif (s.1 == (3 : Int)) then (some (s.1, (s.2.1, (s.2.2.1, (!s.2.2.2.2.2))))) else (some (s.1, (s.2.1, (s.2.2.1, false)))))))
theorem bursarref16_pure.l3_7_ok : ∀ s : Vals bursarref16_pure.sh3_7.tys, nodeK P bursarref16_pure.H (lp []) (placeAt (bodyAt (codeOf P 39) 3) 7) 0 bursarref16_pure.sh3_7 bursarref16_pure.os3_7 s some = bursarref16_pure.l3_7 s := fun s => by kernel_rfl
abbrev bursarref16_pure.os3 : PEnds := [(.ret, ⟨[(4, (.x .b))], []⟩), ((.exit 0), ⟨[], []⟩)]
noncomputable def bursarref16_pure.t3 (s : (Int × (ByteArray × Int))) : Option ((Int × (ByteArray × Int)) ⊕ (Bool ⊕ Unit)) := (bif (decide ((s.2.2 < (s.2.1.size : Int)))) then (bif ((decide (((0 : Int) ≤ s.2.2))) && (decide ((s.2.2 < (s.2.1.size : Int))))) then (((bursarref16_pure.l3_4 (s.1, (s.2.1, (s.2.2, (bt s.2.1 (Int.toNat s.2.2))))))).bind fun (x3 : (Int × (ByteArray × (Int × (Int × Bool))))) => (((bursarref16_pure.l3_5 x3)).bind fun (x4 : (Int × (ByteArray × (Int × (Int × (Bool × Bool)))))) => (((bursarref16_pure.l3_6 x4)).bind fun (x5 : (Int × (ByteArray × (Int × (Bool × (Bool × Bool)))))) => (((bursarref16_pure.l3_7 x5)).bind fun (x6 : (Int × (ByteArray × (Int × Bool)))) => (bif x6.2.2.2 then (some (.inr (.inl false))) else (some (.inl (x6.1, (x6.2.1, (IntKind.wrap .i64 (x6.2.2.1 + (1 : Int)))))))))))) else none) else (some (.inr (.inr ()))))
theorem bursarref16_pure.t3_ok : ∀ s : Vals bursarref16_pure.sh3.tys, turnK P bursarref16_pure.H (lp [(4, (NodeT.summ ⟨bursarref16_pure.sh3_4, bursarref16_pure.os3_4, bursarref16_pure.l3_4⟩ 0)), (5, (NodeT.summ ⟨bursarref16_pure.sh3_5, bursarref16_pure.os3_5, bursarref16_pure.l3_5⟩ 0)), (6, (NodeT.summ ⟨bursarref16_pure.sh3_6, bursarref16_pure.os3_6, bursarref16_pure.l3_6⟩ 0)), (7, (NodeT.summ ⟨bursarref16_pure.sh3_7, bursarref16_pure.os3_7, bursarref16_pure.l3_7⟩ 0))]) (bodyAt (codeOf P 39) 3) 0 bursarref16_pure.sh3 bursarref16_pure.os3 s some = bursarref16_pure.t3 s := fun s => by kernel_rfl
noncomputable def bursarref16_pure.l3 : (Int × (ByteArray × Int)) → Option (Bool ⊕ Unit) := rounds bursarref16_pure.t3
noncomputable def bursarref16_pure.f (a : (Int × ByteArray)) : Option Bool := (((bursarref16_pure.l3 (a.1, (a.2, (0 : Int))))).bind fun (x2 : (Bool ⊕ PUnit)) => (match x2 with | .inl x3 => (some x3) | .inr x3 => (some true)))
theorem bursarref16_pure.ok : ∀ a : Vals bursarref16_pure.As.tys, fnK P bursarref16_pure.H (lp [(3, (NodeT.summ ⟨bursarref16_pure.sh3, bursarref16_pure.os3, bursarref16_pure.l3⟩ 0))]) 39 bursarref16_pure.As bursarref16_pure.m a some = bursarref16_pure.f a := fun a => by kernel_rfl
noncomputable abbrev bursarref16_pure.row : Row := fnRow 39 bursarref16_pure.As bursarref16_pure.m bursarref16_pure.f
theorem bursarref16_pure.row_ok : RowOK P G0 bursarref16_pure.row := row_told bursarref16_pure.hok (lp_of (l := [(3, (NodeT.summ ⟨bursarref16_pure.sh3, bursarref16_pure.os3, bursarref16_pure.l3⟩ 0))]) ⟨(loop_sum bursarref16_pure.hok (by kernel_rfl) (by kernel_rfl) (l := [(4, (NodeT.summ ⟨bursarref16_pure.sh3_4, bursarref16_pure.os3_4, bursarref16_pure.l3_4⟩ 0)), (5, (NodeT.summ ⟨bursarref16_pure.sh3_5, bursarref16_pure.os3_5, bursarref16_pure.l3_5⟩ 0)), (6, (NodeT.summ ⟨bursarref16_pure.sh3_6, bursarref16_pure.os3_6, bursarref16_pure.l3_6⟩ 0)), (7, (NodeT.summ ⟨bursarref16_pure.sh3_7, bursarref16_pure.os3_7, bursarref16_pure.l3_7⟩ 0))]) ⟨(place_sum bursarref16_pure.hok (by kernel_rfl) (l := []) trivial bursarref16_pure.sh3_4 bursarref16_pure.os3_4 bursarref16_pure.l3_4 bursarref16_pure.l3_4_ok), ⟨(place_sum bursarref16_pure.hok (by kernel_rfl) (l := []) trivial bursarref16_pure.sh3_5 bursarref16_pure.os3_5 bursarref16_pure.l3_5 bursarref16_pure.l3_5_ok), ⟨(place_sum bursarref16_pure.hok (by kernel_rfl) (l := []) trivial bursarref16_pure.sh3_6 bursarref16_pure.os3_6 bursarref16_pure.l3_6 bursarref16_pure.l3_6_ok), ⟨(place_sum bursarref16_pure.hok (by kernel_rfl) (l := []) trivial bursarref16_pure.sh3_7 bursarref16_pure.os3_7 bursarref16_pure.l3_7 bursarref16_pure.l3_7_ok), trivial⟩⟩⟩⟩ bursarref16_pure.sh3 bursarref16_pure.os3 (by kernel_rfl) bursarref16_pure.t3 bursarref16_pure.t3_ok), trivial⟩) (fun _ => rfl) bursarref16_pure.ok
end Go.Proofs.YtiifdejnmaohlaaDoor
end
section
/- What fields are, and of which octets: plain laws. By this session. -/
set_option linter.unusedVariables false
set_option linter.unusedSimpArgs false
namespace Go.Proofs.YtiifdejnmaohlaaDoor
open Go Go.Fw
/-! ### the table -/
def okSpec (k v l : Int) : Bool := (decide (k = 0) && (decide (v = 0) && decide (l = 0))) || (decide (1 ≤ k) && (decide (k ≤ 4) && ((decide (v = 0) || (decide (v = 2) && decide (l ≤ 99)) || decide (v = 3)) && (decide (1 ≤ l) && decide (l ≤ 999)))))
noncomputable def tabCheck (n : Nat) : Bool := match bursarref16_Of.f (n : Int), spec_Of.f (n : Int) with
  | some (k, v, l), some ((k', v', l'), e) => (decide (k = k') && (decide (v = v') && decide (l = l'))) && (decide (e = bif decide (k = 0) then 7 else 0) && okSpec k v l)
  | _, _ => false
theorem tab_all : (List.range 129).all tabCheck = true := by kernel_rfl
theorem of_out {n : Int} (h : ¬ (0 ≤ n ∧ n ≤ 128)) : bursarref16_Of.f n = some (0, 0, 0) ∧ spec_Of.f n = some ((0, 0, 0), 7) := by
  constructor
  · have e : ∀ k : Int, 0 ≤ k → k ≤ 128 → (n == k) = false := fun k h0 h1 => by rw [beq_eq_false_iff_ne]; omega
    have i : ∀ lo hi : Int, 0 ≤ lo → hi ≤ 128 → bursarref16_in.f (n, lo, hi) = some false := fun lo hi h0 h1 => by
      unfold bursarref16_in.f
      by_cases hl : lo ≤ n
      · have : ¬ n ≤ hi := by omega
        simp [hl, this]
      · simp [hl]
    unfold bursarref16_Of.f
    simp [e, i]
  · unfold spec_Of.f
    by_cases h0 : n < 0
    · simp [h0]
    · have h1 : n > 128 := by omega
      simp [h0, h1]
theorem of_is (n : Int) : ∃ k v l : Int, bursarref16_Of.f n = some (k, v, l) ∧ spec_Of.f n = some ((k, v, l), bif decide (k = 0) then 7 else 0) ∧ okSpec k v l = true := by
  by_cases h : 0 ≤ n ∧ n ≤ 128
  · have := List.all_eq_true.1 tab_all n.toNat (List.mem_range.2 (by omega))
    unfold tabCheck at this
    rw [show ((n.toNat : Nat) : Int) = n by omega] at this
    split at this
    · rename_i k v l k' v' l' e h1 h2
      simp only [Bool.and_eq_true, decide_eq_true_eq] at this
      obtain ⟨⟨rfl, rfl, rfl⟩, rfl, h3⟩ := this
      exact ⟨k, v, l, h1, h2, h3⟩
    · cases this
  · obtain ⟨h1, h2⟩ := of_out h
    exact ⟨0, 0, 0, h1, h2, rfl⟩
/-! ### octets of a kind -/
def okN (c : UInt8) : Bool := decide (48 ≤ c.toNat) && decide (c.toNat ≤ 57)
def okA (c : UInt8) : Bool := okN c || (decide (65 ≤ c.toNat) && decide (c.toNat ≤ 90)) || (decide (97 ≤ c.toNat) && decide (c.toNat ≤ 122)) || decide (c.toNat = 32)
def okS (c : UInt8) : Bool := decide (32 ≤ c.toNat) && decide (c.toNat ≤ 126)
def okC (k : Int) (c : UInt8) : Bool := bif k == 1 then okN c else bif k == 2 then okA c else bif k == 3 then okS c else true
theorem or32 : (List.range 256).all (fun c => (decide (97 ≤ bitsOp .or .u8 (c : Int) 32) && decide (bitsOp .or .u8 (c : Int) 32 ≤ 122)) == ((decide (65 ≤ c) && decide (c ≤ 90)) || (decide (97 ≤ c) && decide (c ≤ 122)))) = true := by kernel_rfl
theorem or32_is (c : UInt8) : (decide (97 ≤ bitsOp .or .u8 (c.toNat : Int) 32) && decide (bitsOp .or .u8 (c.toNat : Int) 32 ≤ 122)) = ((decide (65 ≤ c.toNat) && decide (c.toNat ≤ 90)) || (decide (97 ≤ c.toNat) && decide (c.toNat ≤ 122))) := by
  have := List.all_eq_true.1 or32 c.toNat (List.mem_range.2 c.toNat_lt)
  exact eq_of_beq this
/-- rounds over a text, while each octet is right -/
theorem text_rounds {S R : Type} {t : S → Option (S ⊕ R)} (st : Nat → S) (s : ByteArray) (ok : UInt8 → Bool) (out fin : R)
    (h : ∀ i, i < s.size → t (st i) = some (bif ok (s.data.toList.getD i 0) then .inl (st (i + 1)) else .inr out)) (hf : t (st s.size) = some (.inr fin)) : rounds t (st 0) = some (bif s.data.toList.all ok then fin else out) := by
  have := rounds_all st (fun i => ok (s.data.toList.getD i 0)) out fin s.size h hf
  rw [this]
  have e := range_all ok 0 s.data.toList
  rw [show s.data.toList.length = s.size from rfl] at e
  rw [e]
theorem ge0 (i : Nat) : decide ((0 : Int) ≤ (i : Int)) = true := by simp
theorem pure_is {k v l : Int} {s : ByteArray} (hk : 1 ≤ k ∧ k ≤ 4) (hs : s.size < 9223372036854775807) : spec_pure.f ((k, v, l), s) = some (s.data.toList.all (okC k)) := by
  have hk : k = 1 ∨ k = 2 ∨ k = 3 ∨ k = 4 := by omega
  have lt : ∀ i, i < s.size → decide ((i : Int) < (s.size : Int)) = true := fun i hi => by simp only [decide_eq_true_eq]; omega
  have end' : decide ((s.size : Int) < (s.size : Int)) = false := by simp
  rcases hk with rfl | rfl | rfl | rfl
  · have hl : spec_pure.l4b (s, (s.size : Int), 0) = some (bif s.data.toList.all (okC 1) then .inr () else .inl false) := by
      refine text_rounds (t := spec_pure.t4b) (fun i => (s, (s.size : Int), (i : Int))) s (okC 1) (.inl false) (.inr ()) (fun i hi => ?_) ?_
      · simp only [spec_pure.t4b, lt i hi, ge0 i, Bool.true_and, Bool.and_true, Bool.and_self, cond_true, Int.toNat_natCast, wrap_up (show i < 9223372036854775807 by omega), bt]
        obtain ⟨c, hc⟩ : ∃ c, s.data.toList.getD i 0 = c := ⟨_, rfl⟩
        have e1 : decide ((c.toNat : Int) ≥ 48) = decide (48 ≤ c.toNat) := by rw [Bool.eq_iff_iff]; simp; omega
        have e2 : decide ((c.toNat : Int) ≤ 57) = decide (c.toNat ≤ 57) := by rw [Bool.eq_iff_iff]; simp; omega
        simp only [hc, okC, okN, e1, e2]
        cases decide (48 ≤ c.toNat) <;> cases decide (c.toNat ≤ 57) <;> rfl
      · simp [spec_pure.t4b]
    unfold spec_pure.f
    simp only [hl, show ((1 : Int) == 0) = false from rfl, show ((1 : Int) == 1) = true from rfl, cond_true, cond_false, Option.bind_some]
    cases s.data.toList.all (okC 1) <;> rfl
  · have hl : spec_pure.l4c (s, (s.size : Int), 0) = some (bif s.data.toList.all (okC 2) then .inr () else .inl false) := by
      refine text_rounds (t := spec_pure.t4c) (fun i => (s, (s.size : Int), (i : Int))) s (okC 2) (.inl false) (.inr ()) (fun i hi => ?_) ?_
      · simp only [spec_pure.t4c, lt i hi, ge0 i, Bool.true_and, Bool.and_true, Bool.and_self, cond_true, Int.toNat_natCast, wrap_up (show i < 9223372036854775807 by omega), bt]
        obtain ⟨c, hc⟩ : ∃ c, s.data.toList.getD i 0 = c := ⟨_, rfl⟩
        have h32 := or32_is c
        simp only [hc, okC, okA, okN, ge_iff_le, show ((2 : Int) == 1) = false from rfl, show ((2 : Int) == 2) = true from rfl, cond_true, cond_false]
        have e0 : ((c.toNat : Int) == 32) = decide (c.toNat = 32) := by rw [Bool.eq_iff_iff]; simp; omega
        have e1 : decide ((48 : Int) ≤ (c.toNat : Int)) = decide (48 ≤ c.toNat) := by rw [Bool.eq_iff_iff]; simp; omega
        have e2 : decide ((c.toNat : Int) ≤ 57) = decide (c.toNat ≤ 57) := by rw [Bool.eq_iff_iff]; simp; omega
        rw [e0, e1, e2]
        obtain ⟨a, ha⟩ : ∃ a, decide (48 ≤ c.toNat) = a := ⟨_, rfl⟩
        obtain ⟨b, hb⟩ : ∃ a, decide (c.toNat ≤ 57) = a := ⟨_, rfl⟩
        obtain ⟨d, hd⟩ : ∃ a, decide (c.toNat = 32) = a := ⟨_, rfl⟩
        obtain ⟨x, hx⟩ : ∃ a, decide (97 ≤ bitsOp .or .u8 (c.toNat : Int) 32) = a := ⟨_, rfl⟩
        obtain ⟨y, hy⟩ : ∃ a, decide (bitsOp .or .u8 (c.toNat : Int) 32 ≤ 122) = a := ⟨_, rfl⟩
        rw [hx, hy] at h32
        rw [ha, hb, hd, hx, hy, Bool.or_assoc (a && b), ← h32]
        cases a <;> cases b <;> cases d <;> cases x <;> cases y <;> rfl
      · simp [spec_pure.t4c]
    unfold spec_pure.f
    simp only [hl, show ((2 : Int) == 0) = false from rfl, show ((2 : Int) == 1) = false from rfl, show ((2 : Int) == 2) = true from rfl, cond_true, cond_false, Option.bind_some]
    cases s.data.toList.all (okC 2) <;> rfl
  · have hl : spec_pure.l4d (s, (s.size : Int), 0) = some (bif s.data.toList.all (okC 3) then .inr () else .inl false) := by
      refine text_rounds (t := spec_pure.t4d) (fun i => (s, (s.size : Int), (i : Int))) s (okC 3) (.inl false) (.inr ()) (fun i hi => ?_) ?_
      · simp only [spec_pure.t4d, lt i hi, ge0 i, Bool.true_and, Bool.and_true, Bool.and_self, cond_true, Int.toNat_natCast, wrap_up (show i < 9223372036854775807 by omega), bt]
        obtain ⟨c, hc⟩ : ∃ c, s.data.toList.getD i 0 = c := ⟨_, rfl⟩
        have e1 : decide ((c.toNat : Int) ≥ 32) = decide (32 ≤ c.toNat) := by rw [Bool.eq_iff_iff]; simp; omega
        have e2 : decide ((c.toNat : Int) ≤ 126) = decide (c.toNat ≤ 126) := by rw [Bool.eq_iff_iff]; simp; omega
        simp only [hc, okC, okS, e1, e2]
        cases decide (32 ≤ c.toNat) <;> cases decide (c.toNat ≤ 126) <;> rfl
      · simp [spec_pure.t4d]
    unfold spec_pure.f
    simp only [hl, show ((3 : Int) == 0) = false from rfl, show ((3 : Int) == 1) = false from rfl, show ((3 : Int) == 2) = false from rfl, show ((3 : Int) == 3) = true from rfl, cond_true, cond_false, Option.bind_some]
    cases s.data.toList.all (okC 3) <;> rfl
  · have hl : spec_pure.l4e (s, (s.size : Int), 0) = some () := by
      have := rounds_to (t := spec_pure.t4e) (fun i => (s, (s.size : Int), (i : Int))) s.size fun i hi => by
        simp only [spec_pure.t4e, lt i hi, ge0 i, Bool.true_and, Bool.and_true, Bool.and_self, cond_true, wrap_up (show i < 9223372036854775807 by omega)]
      show rounds spec_pure.t4e _ = _
      refine this.trans (rounds_end ?_)
      simp [spec_pure.t4e]
    unfold spec_pure.f
    simp only [hl, show ((4 : Int) == 0) = false from rfl, show ((4 : Int) == 1) = false from rfl, show ((4 : Int) == 2) = false from rfl, show ((4 : Int) == 3) = false from rfl, show ((4 : Int) == 4) = true from rfl, cond_true, cond_false, Option.bind_some]
    have : s.data.toList.all (okC 4) = true := by rw [List.all_eq_true]; intro x _; rfl
    rw [this]
theorem rp4 (k : Int) (s : ByteArray) (i n : Int) : bursarref16_pure.l3_4 (k, s, i, n) = some (k, s, i, n, decide (48 ≤ n) && decide (n ≤ 57)) := by
  simp only [bursarref16_pure.l3_4]
  cases decide (48 ≤ n) <;> rfl
theorem rp5 (k : Int) (s : ByteArray) (i n : Int) (b : Bool) : bursarref16_pure.l3_5 (k, s, i, n, b) = some (k, s, i, n, b, (decide (65 ≤ n) && decide (n ≤ 90)) || (decide (97 ≤ n) && decide (n ≤ 122)) || n == 32) := by
  simp only [bursarref16_pure.l3_5]
  cases decide (65 ≤ n) <;> cases decide (n ≤ 90) <;> cases decide (97 ≤ n) <;> cases decide (n ≤ 122) <;> rfl
theorem rp6 (k : Int) (s : ByteArray) (i n : Int) (b d : Bool) : bursarref16_pure.l3_6 (k, s, i, n, b, d) = some (k, s, i, b, d, decide (32 ≤ n) && decide (n ≤ 126)) := by
  simp only [bursarref16_pure.l3_6]
  cases decide (32 ≤ n) <;> rfl
theorem rp7 (k : Int) (s : ByteArray) (i : Int) (b d e : Bool) (hk : 1 ≤ k ∧ k ≤ 4) : bursarref16_pure.l3_7 (k, s, i, b, d, e) = some (k, s, i, !(bif k == 1 then b else bif k == 2 then b || d else bif k == 3 then e else true)) := by
  have hk : k = 1 ∨ k = 2 ∨ k = 3 ∨ k = 4 := by omega
  simp only [bursarref16_pure.l3_7]
  rcases hk with rfl | rfl | rfl | rfl <;> cases b <;> cases d <;> cases e <;> rfl
theorem okC_bt (k : Int) (c : UInt8) : okC k c = (bif k == 1 then decide ((48 : Int) ≤ (c.toNat : Int)) && decide ((c.toNat : Int) ≤ 57) else bif k == 2 then (decide ((48 : Int) ≤ (c.toNat : Int)) && decide ((c.toNat : Int) ≤ 57)) || ((decide ((65 : Int) ≤ (c.toNat : Int)) && decide ((c.toNat : Int) ≤ 90)) || (decide ((97 : Int) ≤ (c.toNat : Int)) && decide ((c.toNat : Int) ≤ 122)) || ((c.toNat : Int) == 32)) else bif k == 3 then decide ((32 : Int) ≤ (c.toNat : Int)) && decide ((c.toNat : Int) ≤ 126) else true) := by
  have e : ∀ a b : Nat, decide ((a : Int) ≤ (b : Int)) = decide (a ≤ b) := fun a b => by rw [Bool.eq_iff_iff]; simp
  have e0 : ((c.toNat : Int) == 32) = decide (c.toNat = 32) := by rw [Bool.eq_iff_iff]; simp; omega
  have e1 := e 48 c.toNat; have e2 := e c.toNat 57; have e3 := e 65 c.toNat; have e4 := e c.toNat 90; have e5 := e 97 c.toNat; have e6 := e c.toNat 122; have e7 := e 32 c.toNat; have e8 := e c.toNat 126
  simp only [Int.cast_ofNat_Int] at e1 e2 e3 e4 e5 e6 e7 e8
  simp only [okC, okA, okN, okS, e0, e1, e2, e3, e4, e5, e6, e7, e8, Bool.or_assoc]
theorem refpure_is {k : Int} {s : ByteArray} (hk : 1 ≤ k ∧ k ≤ 4) (hs : s.size < 9223372036854775807) : bursarref16_pure.f (k, s) = some (s.data.toList.all (okC k)) := by
  have lt : ∀ i, i < s.size → decide ((i : Int) < (s.size : Int)) = true := fun i hi => by simp only [decide_eq_true_eq]; omega
  have hl : bursarref16_pure.l3 (k, s, 0) = some (bif s.data.toList.all (okC k) then .inr () else .inl false) := by
    refine text_rounds (t := bursarref16_pure.t3) (fun i => (k, s, (i : Int))) s (okC k) (.inl false) (.inr ()) (fun i hi => ?_) ?_
    · simp only [bursarref16_pure.t3, lt i hi, ge0 i, Bool.true_and, Bool.and_true, Bool.and_self, cond_true, Int.toNat_natCast, wrap_up (show i < 9223372036854775807 by omega), bt, rp4, rp5, rp6, rp7 _ _ _ _ _ _ hk, Option.bind_some, okC_bt]
      obtain ⟨b, hb⟩ : ∃ b, (bif k == 1 then decide ((48 : Int) ≤ ((s.data.toList.getD i 0).toNat : Int)) && decide (((s.data.toList.getD i 0).toNat : Int) ≤ 57) else bif k == 2 then (decide ((48 : Int) ≤ ((s.data.toList.getD i 0).toNat : Int)) && decide (((s.data.toList.getD i 0).toNat : Int) ≤ 57)) || ((decide ((65 : Int) ≤ ((s.data.toList.getD i 0).toNat : Int)) && decide (((s.data.toList.getD i 0).toNat : Int) ≤ 90)) || (decide ((97 : Int) ≤ ((s.data.toList.getD i 0).toNat : Int)) && decide (((s.data.toList.getD i 0).toNat : Int) ≤ 122)) || (((s.data.toList.getD i 0).toNat : Int) == 32)) else bif k == 3 then decide ((32 : Int) ≤ ((s.data.toList.getD i 0).toNat : Int)) && decide (((s.data.toList.getD i 0).toNat : Int) ≤ 126) else true) = b := ⟨_, rfl⟩
      rw [hb]
      cases b <;> rfl
    · simp [bursarref16_pure.t3]
  unfold bursarref16_pure.f
  simp only [hl, Option.bind_some]
  cases s.data.toList.all (okC k) <;> rfl
end Go.Proofs.YtiifdejnmaohlaaDoor
end
section
/- The Go function spec.Valid, as a Lean function, and that it is this one. Written by a program of this session. -/
set_option linter.unusedVariables false
set_option maxRecDepth 100000
namespace Go.Proofs.YtiifdejnmaohlaaDoor
open Go Go.Fw
abbrev spec_Valid.As : Shs := (.cons (.x (.i .i64)) (.cons (.x .s) .nil))
abbrev spec_Valid.m : Back := [(false, .b)]
noncomputable abbrev spec_Valid.H : HK := hk P G1 E0 [spec_Of.row, spec_pure.row] noLoops 4
theorem spec_Valid.rows : TabOK P G1 (tabF [spec_Of.row, spec_pure.row]) := rows_ok (ws := [spec_Of.row, spec_pure.row]) ⟨spec_Of.row_ok, ⟨(spec_pure.row_ok.more g01), trivial⟩⟩
theorem spec_Valid.hok : HKOK P spec_Valid.H := hk_ok e0_ok spec_Valid.rows (fun g n => noLoops_ok g n) 4
noncomputable def spec_Valid.f (a : (Int × ByteArray)) : Option Bool := (((spec_Of.f a.1)).bind fun (x2 : ((Int × (Int × Int)) × Int)) => (bif ((a.2.size : Int) == x2.1.2.2) then (bif (x2.2 == (0 : Int)) then (((spec_pure.f (x2.1, a.2))).bind fun (x3 : Bool) => (some x3)) else (some false)) else (bif (decide ((x2.1.2.1 > (0 : Int)))) then (bif (x2.2 == (0 : Int)) then (bif (decide (((a.2.size : Int) < x2.1.2.2))) then (((spec_pure.f (x2.1, a.2))).bind fun (x3 : Bool) => (some x3)) else (some false)) else (some false)) else (bif (x2.2 == (0 : Int)) then (some false) else (some false)))))
theorem spec_Valid.ok : ∀ a : Vals spec_Valid.As.tys, fnK P spec_Valid.H (lp []) 15 spec_Valid.As spec_Valid.m a some = spec_Valid.f a := fun a => by kernel_rfl
noncomputable abbrev spec_Valid.row : Row := fnRow 15 spec_Valid.As spec_Valid.m spec_Valid.f
theorem spec_Valid.row_ok : RowOK P G1 spec_Valid.row := row_told spec_Valid.hok (lp_of (l := []) trivial) (fun _ => rfl) spec_Valid.ok
end Go.Proofs.YtiifdejnmaohlaaDoor
end
section
/- Contracts of the library at this program, in plain words. Written by a tool of the kit.
-/
namespace Go.Proofs
open Go.Shelf
def Tryd.laysM171_ren : Go.Shelf.Ren := ⟨fun | 171 => 36 | 243 => 50 | 246 => 61 | 283 => 79 | 284 => 80 | 285 => 81 | 286 => 82 | 129 => 97 | 317 => 96 | 318 => 98 | 319 => 99 | 320 => 100 | 337 => 112 | 338 => 113 | n => n, fun | 3 => 3 | 9 => 9 | 2 => 2 | 4 => 4 | 171 => 113 | 0 => 0 | 53 => 114 | 37 => 71 | 5 => 5 | 173 => 117 | 212 => 142 | 51 => 128 | 20 => 20 | 213 => 143 | 46 => 121 | 232 => 172 | 233 => 173 | n => n, fun | 17 => 4 | 18 => 6 | 19 => 7 | n => n⟩
theorem Tryd.laysM171 : Go.Proofs.LaysM.n171 Tryd.prog Tryd.laysM171_ren := {
  mixed := by kernel_rfl
  f129 := Tryd.func97.trans (congrArg some (by kernel_rfl))
  f171 := Tryd.func36.trans (congrArg some (by kernel_rfl))
  f243 := Tryd.func50.trans (congrArg some (by kernel_rfl))
  f246 := Tryd.func61.trans (congrArg some (by kernel_rfl))
  f283 := Tryd.func79.trans (congrArg some (by kernel_rfl))
  f284 := Tryd.func80.trans (congrArg some (by kernel_rfl))
  f285 := Tryd.func81.trans (congrArg some (by kernel_rfl))
  f286 := Tryd.func82.trans (congrArg some (by kernel_rfl))
  f317 := Tryd.func96.trans (congrArg some (by kernel_rfl))
  f318 := Tryd.func98.trans (congrArg some (by kernel_rfl))
  f319 := Tryd.func99.trans (congrArg some (by kernel_rfl))
  f320 := Tryd.func100.trans (congrArg some (by kernel_rfl))
  f337 := Tryd.func112.trans (congrArg some (by kernel_rfl))
  f338 := Tryd.func113.trans (congrArg some (by kernel_rfl))
  t0 := Tryd.underlying0
  a0 := Tryd.isAgg0
  z0 := Tryd.sizeOf0
  v0 := Tryd.zeroValue0
  t2 := Tryd.underlying2
  a2 := Tryd.isAgg2
  z2 := Tryd.sizeOf2
  v2 := Tryd.zeroValue2
  t3 := Tryd.underlying3
  a3 := Tryd.isAgg3
  z3 := Tryd.sizeOf3
  v3 := Tryd.zeroValue3
  t4 := Tryd.underlying4
  a4 := Tryd.isAgg4
  z4 := Tryd.sizeOf4
  v4 := Tryd.zeroValue4
  t5 := Tryd.underlying5
  a5 := Tryd.isAgg5
  z5 := Tryd.sizeOf5
  v5 := Tryd.zeroValue5
  t9 := Tryd.underlying9
  a9 := Tryd.isAgg9
  z9 := Tryd.sizeOf9
  v9 := Tryd.zeroValue9
  t20 := Tryd.underlying20
  a20 := Tryd.isAgg20
  z20 := Tryd.sizeOf20
  v20 := Tryd.zeroValue20
  t37 := Tryd.underlying71
  a37 := Tryd.isAgg71
  z37 := Tryd.sizeOf71
  v37 := Tryd.zeroValue71
  t46 := Tryd.underlying121
  a46 := Tryd.isAgg121
  z46 := Tryd.sizeOf121
  v46 := Tryd.zeroValue121
  t51 := Tryd.underlying128
  a51 := Tryd.isAgg128
  z51 := Tryd.sizeOf128
  v51 := Tryd.zeroValue128
  t53 := Tryd.underlying114
  a53 := Tryd.isAgg114
  z53 := Tryd.sizeOf114
  v53 := Tryd.zeroValue114
  t171 := Tryd.underlying113
  a171 := Tryd.isAgg113
  z171 := Tryd.sizeOf113
  v171 := Tryd.zeroValue113
  t173 := Tryd.underlying117
  a173 := Tryd.isAgg117
  z173 := Tryd.sizeOf117
  v173 := Tryd.zeroValue117
  t212 := Tryd.underlying142
  a212 := Tryd.isAgg142
  z212 := Tryd.sizeOf142
  v212 := Tryd.zeroValue142
  t213 := Tryd.underlying143
  a213 := Tryd.isAgg143
  z213 := Tryd.sizeOf143
  t232 := Tryd.underlying172
  a232 := Tryd.isAgg172
  z232 := Tryd.sizeOf172
  v232 := Tryd.zeroValue172
  t233 := Tryd.underlying173
  a233 := Tryd.isAgg173
  z233 := Tryd.sizeOf173
  v233 := Tryd.zeroValue173
  g17 := by kernel_rfl
  g18 := by kernel_rfl
  g19 := by kernel_rfl
  i0 := by kernel_rfl
  i2 := by kernel_rfl
  i3 := by kernel_rfl
  i4 := by kernel_rfl
  i5 := by kernel_rfl
  i9 := by kernel_rfl
  i20 := by kernel_rfl
  i37 := by kernel_rfl
  i46 := by kernel_rfl
  i51 := by kernel_rfl
  i53 := by kernel_rfl
  i171 := by kernel_rfl
  i173 := by kernel_rfl
  i212 := by kernel_rfl
  i232 := by kernel_rfl
  i233 := by kernel_rfl
  m17 := by kernel_rfl
  m18 := by kernel_rfl
  m19 := by kernel_rfl }
end Go.Proofs
end
section
/- strconv.Itoa, as a row, by the library's contracts. By this session. -/
set_option linter.unusedVariables false
namespace Go.Proofs.YtiifdejnmaohlaaDoor
open Go Go.Fw Go.RowKit Go.Shelf
/-- a number's digits, with its sign -/
def itoaI (n : Int) : List UInt8 := bif decide (n < 0) then 45 :: decF 20 n.natAbs else decF 20 n.toNat
abbrev strconv_Itoa.As : Shs := .cons (.x (.i .i64)) .nil
abbrev strconv_Itoa.m : Back := [(false, .s)]
abbrev strconv_Itoa.f (a : Int) : Option ByteArray := bif decide (-9223372036854775808 ≤ a) && decide (a ≤ 9223372036854775807) then some (bs (itoaI a)) else none
noncomputable abbrev strconv_Itoa.row : Row := fnRow 36 strconv_Itoa.As strconv_Itoa.m strconv_Itoa.f
theorem itoaI_is {n : Int} (h0 : -9223372036854775808 ≤ n) (h1 : n ≤ 9223372036854775807) : itoaI n = Lib.itoa n := by
  unfold itoaI Lib.itoa
  rw [decF_is 19 _ (by omega)]
  by_cases h : n < 0
  · simp [h]
  · simp only [h, decide_false, cond_false, if_false]
    exact decF_is 19 _ (by omega)
theorem strconv_Itoa.row_ok : RowOK P G0 strconv_Itoa.row := by
  have key : ∀ (ds : List D) (a : Int) (q : ByteArray), decArgs strconv_Itoa.As ds = some a → strconv_Itoa.f a = some q → Fw.Enters P 36 ∧ PCall P G0 36 ds (.s q) := by
    intro ds a q ha hq
    refine ⟨ent_of Tryd.func36 (by kernel_rfl) (by kernel_rfl), ?_⟩
    have hds := (decArgs_argD ha).symm
    refine PCall.coe (ds' := argD strconv_Itoa.As a) ?_ (by rw [← hds]; exact coeA_len) fun w I f hf => by rw [← hds]; exact coeA_rel hf
    refine pcall_below fun w I K vs hg hsz hr => ?_
    have h0 := hr 0 (.i .i64 a) rfl
    have hvs : vs = #[.int .i64 a] := by
      have hs : vs.size = 1 := hsz
      rw [Array.getD_eq_getD_getElem?, Array.getElem?_eq_getElem (by omega)] at h0
      simp only [Option.getD_some] at h0
      refine Array.ext (by simpa using hs) fun i hi hi' => ?_
      match i, hi with
      | 0, _ => cases h : vs[0] <;> rw [h] at h0 <;> cases h0; rfl
      | i + 1, hi => omega
    subst hvs
    unfold strconv_Itoa.f at hq
    obtain ⟨hb, hq⟩ := cond_some hq
    simp only [Bool.and_eq_true, decide_eq_true_eq] at hb
    injection hq with hq
    subst hq
    refine (Any.strconv_Itoa Tryd.laysM171 a hb.1 hb.2 w (tab_of_glob hg (g := 4) (by kernel_rfl) rfl)).mono ?_
    rintro e w' ⟨rfl, k, os, rfl⟩
    refine ⟨_, rfl, grow_below w k os, ?_⟩
    rw [itoaI_is hb.1 hb.2]
    exact RelD.s _
  exact fun ds a q => key ds a q
end Go.Proofs.YtiifdejnmaohlaaDoor
end
section
/- The Go function spec.Pack, as a Lean function, and that it is this one. Written by a program of this session. -/
set_option linter.unusedVariables false
set_option maxRecDepth 100000
namespace Go.Proofs.YtiifdejnmaohlaaDoor
open Go Go.Fw
abbrev spec_Pack.As : Shs := (.cons (.x (.i .i64)) (.cons (.x .s) .nil))
abbrev spec_Pack.m : Back := [(false, .s), (false, (.i .i64))]
noncomputable abbrev spec_Pack.H : HK := hk P G1 E0 [spec_Valid.row, spec_Of.row, strconv_Itoa.row] noLoops 4
theorem spec_Pack.rows : TabOK P G1 (tabF [spec_Valid.row, spec_Of.row, strconv_Itoa.row]) := rows_ok (ws := [spec_Valid.row, spec_Of.row, strconv_Itoa.row]) ⟨spec_Valid.row_ok, ⟨spec_Of.row_ok, ⟨(strconv_Itoa.row_ok.more g01), trivial⟩⟩⟩
theorem spec_Pack.hok : HKOK P spec_Pack.H := hk_ok e0_ok spec_Pack.rows (fun g n => noLoops_ok g n) 4
noncomputable def spec_Pack.f (a : (Int × ByteArray)) : Option (ByteArray × Int) := (((spec_Of.f a.1)).bind fun (x2 : ((Int × (Int × Int)) × Int)) => (bif (x2.2 != (0 : Int)) then (some ((bs []), x2.2)) else (((spec_Valid.f a)).bind fun (x3 : Bool) => (bif (!x3) then (some ((bs []), (16 : Int))) else (((strconv_Itoa.f (IntKind.wrap .i64 ((1000 : Int) + (a.2.size : Int))))).bind fun (x4 : ByteArray) => (bif ((decide (((0 : Int) ≤ (IntKind.wrap .i64 ((4 : Int) - x2.1.2.1))))) && (decide (((IntKind.wrap .i64 ((4 : Int) - x2.1.2.1)) ≤ (x4.size : Int))))) then (bif (Nat.ble ((ByteArray.extract x4 (Int.toNat (IntKind.wrap .i64 ((4 : Int) - x2.1.2.1))) x4.size).size + a.2.size) 9223372036854775807) then (some (((ByteArray.extract x4 (Int.toNat (IntKind.wrap .i64 ((4 : Int) - x2.1.2.1))) x4.size) ++ a.2), (0 : Int))) else none) else none))))))
theorem spec_Pack.ok : ∀ a : Vals spec_Pack.As.tys, fnK P spec_Pack.H (lp []) 13 spec_Pack.As spec_Pack.m a some = spec_Pack.f a := fun a => by kernel_rfl
noncomputable abbrev spec_Pack.row : Row := fnRow 13 spec_Pack.As spec_Pack.m spec_Pack.f
theorem spec_Pack.row_ok : RowOK P G1 spec_Pack.row := row_told spec_Pack.hok (lp_of (l := []) trivial) (fun _ => rfl) spec_Pack.ok
end Go.Proofs.YtiifdejnmaohlaaDoor
end
section
/- The Go function spec.Take, as a Lean function, and that it is this one. Written by a program of this session. -/
set_option linter.unusedVariables false
set_option maxRecDepth 100000
namespace Go.Proofs.YtiifdejnmaohlaaDoor
open Go Go.Fw
abbrev spec_Take.As : Shs := (.cons (.x (.i .i64)) (.cons (.x .s) .nil))
abbrev spec_Take.m : Back := [(false, .s), (false, (.i .i64)), (false, (.i .i64))]
noncomputable abbrev spec_Take.H : HK := hk P G1 E0 [spec_Of.row, spec_pure.row, strconv_Atoi.row] noLoops 4
theorem spec_Take.rows : TabOK P G1 (tabF [spec_Of.row, spec_pure.row, strconv_Atoi.row]) := rows_ok (ws := [spec_Of.row, spec_pure.row, strconv_Atoi.row]) ⟨spec_Of.row_ok, ⟨(spec_pure.row_ok.more g01), ⟨strconv_Atoi.row_ok, trivial⟩⟩⟩
theorem spec_Take.hok : HKOK P spec_Take.H := hk_ok e0_ok spec_Take.rows (fun g n => noLoops_ok g n) 4
noncomputable def spec_Take.f (a : (Int × ByteArray)) : Option (ByteArray × (Int × Int)) := (((spec_Of.f a.1)).bind fun (x2 : ((Int × (Int × Int)) × Int)) => (bif (x2.2 != (0 : Int)) then (some ((bs []), ((0 : Int), x2.2))) else (bif (decide (((a.2.size : Int) < x2.1.2.1))) then (some ((bs []), ((0 : Int), (3 : Int)))) else (bif (decide ((x2.1.2.1 > (0 : Int)))) then (bif ((decide (((0 : Int) ≤ x2.1.2.1))) && (decide ((x2.1.2.1 ≤ (a.2.size : Int))))) then (((spec_pure.f (((1 : Int), ((0 : Int), (0 : Int))), (ByteArray.extract a.2 0 (Int.toNat x2.1.2.1))))).bind fun (x3 : Bool) => (bif (!x3) then (some ((bs []), ((0 : Int), (16 : Int)))) else (((strconv_Atoi.f (ByteArray.extract a.2 0 (Int.toNat x2.1.2.1)))).bind fun (x4 : (Int × Bool)) => (bif (decide ((x4.1 > x2.1.2.2))) then (some ((bs []), ((0 : Int), (16 : Int)))) else (bif (decide (((a.2.size : Int) < (IntKind.wrap .i64 (x2.1.2.1 + x4.1))))) then (some ((bs []), ((0 : Int), (3 : Int)))) else (bif ((decide (((0 : Int) ≤ (IntKind.wrap .i64 (x2.1.2.1 + x4.1))))) && (decide (((IntKind.wrap .i64 (x2.1.2.1 + x4.1)) ≤ (a.2.size : Int))))) then (bif ((decide (((0 : Int) ≤ x2.1.2.1))) && (decide ((x2.1.2.1 ≤ ((Int.toNat (IntKind.wrap .i64 (x2.1.2.1 + x4.1))) : Int))))) then (((spec_pure.f (x2.1, (ByteArray.extract a.2 (Int.toNat x2.1.2.1) (Int.toNat (IntKind.wrap .i64 (x2.1.2.1 + x4.1))))))).bind fun (x5 : Bool) => (bif (!x5) then (some ((bs []), ((0 : Int), (16 : Int)))) else (bif ((decide (((0 : Int) ≤ (IntKind.wrap .i64 (x2.1.2.1 + x4.1))))) && (decide (((IntKind.wrap .i64 (x2.1.2.1 + x4.1)) ≤ (a.2.size : Int))))) then (bif ((decide (((0 : Int) ≤ x2.1.2.1))) && (decide ((x2.1.2.1 ≤ ((Int.toNat (IntKind.wrap .i64 (x2.1.2.1 + x4.1))) : Int))))) then (some ((ByteArray.extract a.2 (Int.toNat x2.1.2.1) (Int.toNat (IntKind.wrap .i64 (x2.1.2.1 + x4.1)))), ((IntKind.wrap .i64 (x2.1.2.1 + x4.1)), (0 : Int)))) else none) else none))) else none) else none)))))) else none) else (bif (decide (((a.2.size : Int) < (IntKind.wrap .i64 (x2.1.2.1 + x2.1.2.2))))) then (some ((bs []), ((0 : Int), (3 : Int)))) else (bif ((decide (((0 : Int) ≤ (IntKind.wrap .i64 (x2.1.2.1 + x2.1.2.2))))) && (decide (((IntKind.wrap .i64 (x2.1.2.1 + x2.1.2.2)) ≤ (a.2.size : Int))))) then (bif ((decide (((0 : Int) ≤ x2.1.2.1))) && (decide ((x2.1.2.1 ≤ ((Int.toNat (IntKind.wrap .i64 (x2.1.2.1 + x2.1.2.2))) : Int))))) then (((spec_pure.f (x2.1, (ByteArray.extract a.2 (Int.toNat x2.1.2.1) (Int.toNat (IntKind.wrap .i64 (x2.1.2.1 + x2.1.2.2))))))).bind fun (x3 : Bool) => (bif (!x3) then (some ((bs []), ((0 : Int), (16 : Int)))) else (bif ((decide (((0 : Int) ≤ (IntKind.wrap .i64 (x2.1.2.1 + x2.1.2.2))))) && (decide (((IntKind.wrap .i64 (x2.1.2.1 + x2.1.2.2)) ≤ (a.2.size : Int))))) then (bif ((decide (((0 : Int) ≤ x2.1.2.1))) && (decide ((x2.1.2.1 ≤ ((Int.toNat (IntKind.wrap .i64 (x2.1.2.1 + x2.1.2.2))) : Int))))) then (some ((ByteArray.extract a.2 (Int.toNat x2.1.2.1) (Int.toNat (IntKind.wrap .i64 (x2.1.2.1 + x2.1.2.2)))), ((IntKind.wrap .i64 (x2.1.2.1 + x2.1.2.2)), (0 : Int)))) else none) else none))) else none) else none))))))
theorem spec_Take.ok : ∀ a : Vals spec_Take.As.tys, fnK P spec_Take.H (lp []) 18 spec_Take.As spec_Take.m a some = spec_Take.f a := fun a => by kernel_rfl
noncomputable abbrev spec_Take.row : Row := fnRow 18 spec_Take.As spec_Take.m spec_Take.f
theorem spec_Take.row_ok : RowOK P G1 spec_Take.row := row_told spec_Take.hok (lp_of (l := []) trivial) (fun _ => rfl) spec_Take.ok
end Go.Proofs.YtiifdejnmaohlaaDoor
end
section
/- The Go function bursarref16.Valid, as a Lean function, and that it is this one. Written by a program of this session. -/
set_option linter.unusedVariables false
set_option maxRecDepth 100000
namespace Go.Proofs.YtiifdejnmaohlaaDoor
open Go Go.Fw
abbrev bursarref16_Valid.As : Shs := (.cons (.x (.i .i64)) (.cons (.x .s) .nil))
abbrev bursarref16_Valid.m : Back := [(false, .b)]
noncomputable abbrev bursarref16_Valid.H : HK := hk P G0 E0 [bursarref16_Of.row, bursarref16_pure.row] noLoops 4
theorem bursarref16_Valid.rows : TabOK P G0 (tabF [bursarref16_Of.row, bursarref16_pure.row]) := rows_ok (ws := [bursarref16_Of.row, bursarref16_pure.row]) ⟨bursarref16_Of.row_ok, ⟨bursarref16_pure.row_ok, trivial⟩⟩
theorem bursarref16_Valid.hok : HKOK P bursarref16_Valid.H := hk_ok e0_ok bursarref16_Valid.rows (fun g n => noLoops_ok g n) 4
noncomputable def bursarref16_Valid.f (a : (Int × ByteArray)) : Option Bool := (((bursarref16_Of.f a.1)).bind fun (x2 : (Int × (Int × Int))) => (bif (x2.1 == (0 : Int)) then (some false) else (bif (decide (((a.2.size : Int) > x2.2.2))) then (some false) else (bif (x2.2.1 == (0 : Int)) then (bif (decide (((a.2.size : Int) < x2.2.2))) then (some false) else (((bursarref16_pure.f (x2.1, a.2))).bind fun (x3 : Bool) => (some x3))) else (((bursarref16_pure.f (x2.1, a.2))).bind fun (x3 : Bool) => (some x3))))))
theorem bursarref16_Valid.ok : ∀ a : Vals bursarref16_Valid.As.tys, fnK P bursarref16_Valid.H (lp []) 16 bursarref16_Valid.As bursarref16_Valid.m a some = bursarref16_Valid.f a := fun a => by kernel_rfl
noncomputable abbrev bursarref16_Valid.row : Row := fnRow 16 bursarref16_Valid.As bursarref16_Valid.m bursarref16_Valid.f
theorem bursarref16_Valid.row_ok : RowOK P G0 bursarref16_Valid.row := row_told bursarref16_Valid.hok (lp_of (l := []) trivial) (fun _ => rfl) bursarref16_Valid.ok
end Go.Proofs.YtiifdejnmaohlaaDoor
end
section
/- The Go function bursarref16.digits, as a Lean function, and that it is this one. Written by a program of this session. -/
set_option linter.unusedVariables false
set_option maxRecDepth 100000
namespace Go.Proofs.YtiifdejnmaohlaaDoor
open Go Go.Fw
abbrev bursarref16_digits.As : Shs := (.cons (.x (.i .i64)) (.cons (.x (.i .i64)) .nil))
abbrev bursarref16_digits.m : Back := [(false, .s)]
noncomputable abbrev bursarref16_digits.H : HK := hk P G0 E0 [] noLoops 4
theorem bursarref16_digits.rows : TabOK P G0 (tabF []) := rows_ok (ws := []) trivial
theorem bursarref16_digits.hok : HKOK P bursarref16_digits.H := hk_ok e0_ok bursarref16_digits.rows (fun g n => noLoops_ok g n) 4
abbrev bursarref16_digits.sh4 : SSh := ⟨[(0, (.x (.i .i64))), (1, (.x (.i .i64))), (5, (.x .s)), (6, (.x (.i .i64)))], []⟩
abbrev bursarref16_digits.os4 : PEnds := [((.exit 0), ⟨[(5, (.x .s))], []⟩)]
noncomputable def bursarref16_digits.t4 (s : (Int × (Int × (ByteArray × Int)))) : Option ((Int × (Int × (ByteArray × Int))) ⊕ (ByteArray)) := (bif (decide ((s.2.2.2 < s.2.1))) then (bif (Nat.ble ((ByteArray.mk (List.toArray (List.map (fun y4 => (UInt8.ofNat (Int.toNat y4))) ((IntKind.wrap .u8 (IntKind.wrap .i64 ((48 : Int) + (Int.tmod s.1 (10 : Int))))) :: [])))).size + s.2.2.1.size) 9223372036854775807) then (some (.inl ((IntKind.wrap .i64 (Int.tdiv s.1 (10 : Int))), (s.2.1, (((ByteArray.mk (List.toArray (List.map (fun y4 => (UInt8.ofNat (Int.toNat y4))) ((IntKind.wrap .u8 (IntKind.wrap .i64 ((48 : Int) + (Int.tmod s.1 (10 : Int))))) :: [])))) ++ s.2.2.1), (IntKind.wrap .i64 (s.2.2.2 + (1 : Int)))))))) else none) else (some (.inr s.2.2.1)))
theorem bursarref16_digits.t4_ok : ∀ s : Vals bursarref16_digits.sh4.tys, turnK P bursarref16_digits.H (lp []) (bodyAt (codeOf P 37) 4) 0 bursarref16_digits.sh4 bursarref16_digits.os4 s some = bursarref16_digits.t4 s := fun s => by kernel_rfl
noncomputable def bursarref16_digits.l4 : (Int × (Int × (ByteArray × Int))) → Option (ByteArray) := rounds bursarref16_digits.t4
noncomputable def bursarref16_digits.f (a : (Int × Int)) : Option ByteArray := (((bursarref16_digits.l4 (a.1, (a.2, ((bs []), (0 : Int)))))).bind fun (x2 : ByteArray) => (some x2))
theorem bursarref16_digits.ok : ∀ a : Vals bursarref16_digits.As.tys, fnK P bursarref16_digits.H (lp [(4, (NodeT.summ ⟨bursarref16_digits.sh4, bursarref16_digits.os4, bursarref16_digits.l4⟩ 0))]) 37 bursarref16_digits.As bursarref16_digits.m a some = bursarref16_digits.f a := fun a => by kernel_rfl
noncomputable abbrev bursarref16_digits.row : Row := fnRow 37 bursarref16_digits.As bursarref16_digits.m bursarref16_digits.f
theorem bursarref16_digits.row_ok : RowOK P G0 bursarref16_digits.row := row_told bursarref16_digits.hok (lp_of (l := [(4, (NodeT.summ ⟨bursarref16_digits.sh4, bursarref16_digits.os4, bursarref16_digits.l4⟩ 0))]) ⟨(loop_sum bursarref16_digits.hok (by kernel_rfl) (by kernel_rfl) (l := []) trivial bursarref16_digits.sh4 bursarref16_digits.os4 (by kernel_rfl) bursarref16_digits.t4 bursarref16_digits.t4_ok), trivial⟩) (fun _ => rfl) bursarref16_digits.ok
end Go.Proofs.YtiifdejnmaohlaaDoor
end
section
/- The Go function bursarref16.Pack, as a Lean function, and that it is this one. Written by a program of this session. -/
set_option linter.unusedVariables false
set_option maxRecDepth 100000
namespace Go.Proofs.YtiifdejnmaohlaaDoor
open Go Go.Fw
abbrev bursarref16_Pack.As : Shs := (.cons (.x (.i .i64)) (.cons (.x .s) .nil))
abbrev bursarref16_Pack.m : Back := [(false, .s), (false, (.i .i64))]
noncomputable abbrev bursarref16_Pack.H : HK := hk P G0 E0 [bursarref16_Valid.row, bursarref16_Of.row, bursarref16_digits.row] noLoops 4
theorem bursarref16_Pack.rows : TabOK P G0 (tabF [bursarref16_Valid.row, bursarref16_Of.row, bursarref16_digits.row]) := rows_ok (ws := [bursarref16_Valid.row, bursarref16_Of.row, bursarref16_digits.row]) ⟨bursarref16_Valid.row_ok, ⟨bursarref16_Of.row_ok, ⟨bursarref16_digits.row_ok, trivial⟩⟩⟩
theorem bursarref16_Pack.hok : HKOK P bursarref16_Pack.H := hk_ok e0_ok bursarref16_Pack.rows (fun g n => noLoops_ok g n) 4
noncomputable def bursarref16_Pack.f (a : (Int × ByteArray)) : Option (ByteArray × Int) := (((bursarref16_Of.f a.1)).bind fun (x2 : (Int × (Int × Int))) => (bif (x2.1 == (0 : Int)) then (some ((bs []), (7 : Int))) else (((bursarref16_Valid.f a)).bind fun (x3 : Bool) => (bif (!x3) then (some ((bs []), (16 : Int))) else (((bursarref16_digits.f ((a.2.size : Int), x2.2.1))).bind fun (x4 : ByteArray) => (bif (Nat.ble (x4.size + a.2.size) 9223372036854775807) then (some ((x4 ++ a.2), (0 : Int))) else none))))))
theorem bursarref16_Pack.ok : ∀ a : Vals bursarref16_Pack.As.tys, fnK P bursarref16_Pack.H (lp []) 14 bursarref16_Pack.As bursarref16_Pack.m a some = bursarref16_Pack.f a := fun a => by kernel_rfl
noncomputable abbrev bursarref16_Pack.row : Row := fnRow 14 bursarref16_Pack.As bursarref16_Pack.m bursarref16_Pack.f
theorem bursarref16_Pack.row_ok : RowOK P G0 bursarref16_Pack.row := row_told bursarref16_Pack.hok (lp_of (l := []) trivial) (fun _ => rfl) bursarref16_Pack.ok
end Go.Proofs.YtiifdejnmaohlaaDoor
end
section
/- The Go function bursarlaw16.few, as a Lean function, and that it is this one. Written by a program of this session. -/
set_option linter.unusedVariables false
set_option maxRecDepth 100000
namespace Go.Proofs.YtiifdejnmaohlaaDoor
open Go Go.Fw
abbrev bursarlaw16_few.As : Shs := (.cons (.x .s) .nil)
abbrev bursarlaw16_few.m : Back := [(false, .s)]
noncomputable abbrev bursarlaw16_few.H : HK := hk P G0 E0 [] noLoops 4
theorem bursarlaw16_few.rows : TabOK P G0 (tabF []) := rows_ok (ws := []) trivial
theorem bursarlaw16_few.hok : HKOK P bursarlaw16_few.H := hk_ok e0_ok bursarlaw16_few.rows (fun g n => noLoops_ok g n) 4
noncomputable def bursarlaw16_few.f (a : ByteArray) : Option ByteArray := (bif (decide (((a.size : Int) > (1010 : Int)))) then (bif (true && (decide (((1010 : Int) ≤ (a.size : Int))))) then (some (ByteArray.extract a 0 1010)) else none) else (some a))
theorem bursarlaw16_few.ok : ∀ a : Vals bursarlaw16_few.As.tys, fnK P bursarlaw16_few.H (lp []) 12 bursarlaw16_few.As bursarlaw16_few.m a some = bursarlaw16_few.f a := fun a => by kernel_rfl
noncomputable abbrev bursarlaw16_few.row : Row := fnRow 12 bursarlaw16_few.As bursarlaw16_few.m bursarlaw16_few.f
theorem bursarlaw16_few.row_ok : RowOK P G0 bursarlaw16_few.row := row_told bursarlaw16_few.hok (lp_of (l := []) trivial) (fun _ => rfl) bursarlaw16_few.ok
end Go.Proofs.YtiifdejnmaohlaaDoor
end
section
/- Fields as they stand in a message: plain laws of packing and taking. By this session. -/
set_option linter.unusedVariables false
set_option linter.unusedSimpArgs false
namespace Go.Proofs.YtiifdejnmaohlaaDoor
open Go Go.Fw
/-- may a field be a text? -/
def mayF (k v l : Int) (s : List UInt8) : Bool := !decide (k = 0) && (decide ((s.length : Int) ≤ l) && (!(decide (v = 0) && decide ((s.length : Int) < l)) && s.all (okC k)))
theorem okSpec_is {k v l : Int} (h : okSpec k v l = true) : (k = 0 ∧ v = 0 ∧ l = 0) ∨ (1 ≤ k ∧ k ≤ 4 ∧ (v = 0 ∨ (v = 2 ∧ l ≤ 99) ∨ v = 3) ∧ 1 ≤ l ∧ l ≤ 999) := by
  simp only [okSpec, Bool.or_eq_true, Bool.and_eq_true, decide_eq_true_eq] at h
  omega
theorem refValid_is {n k v l : Int} {s : List UInt8} (hR : bursarref16_Of.f n = some (k, v, l)) (hk : okSpec k v l = true) (hs : s.length ≤ 5000) : bursarref16_Valid.f (n, bs s) = some (mayF k v l s) := by
  unfold bursarref16_Valid.f
  simp only [hR, Option.bind_some, bs_size]
  rcases okSpec_is hk with ⟨rfl, rfl, rfl⟩ | ⟨h1, h2, h3, h4, h5⟩
  · simp [mayF]
  · have hp := refpure_is (k := k) (s := bs s) ⟨h1, h2⟩ (by rw [bs_size]; omega)
    rw [bs_list] at hp
    have e : (k == 0) = false := by rw [beq_eq_false_iff_ne]; omega
    have e' : decide (k = 0) = false := decide_eq_false (by omega)
    simp only [e, cond_false, hp, Option.bind_some, mayF, e', Bool.not_false, Bool.true_and]
    by_cases hl : (s.length : Int) > l
    · have : ¬ (s.length : Int) ≤ l := by omega
      simp [hl, this]
    · have : (s.length : Int) ≤ l := by omega
      by_cases hv : v = 0
      · subst hv
        by_cases hlt : (s.length : Int) < l
        · simp [hl, this, hlt]
        · simp [hl, this, hlt]
      · have hb : (v == 0) = false := by simpa using hv
        simp [hl, this, hv, hb]
theorem valid_is {n k v l : Int} {s : List UInt8} (hO : spec_Of.f n = some ((k, v, l), bif decide (k = 0) then 7 else 0)) (hk : okSpec k v l = true) (hs : s.length ≤ 5000) : spec_Valid.f (n, bs s) = some (mayF k v l s) := by
  unfold spec_Valid.f
  simp only [hO, Option.bind_some, bs_size]
  rcases okSpec_is hk with ⟨rfl, rfl, rfl⟩ | ⟨h1, h2, h3, h4, h5⟩
  · cases h : ((s.length : Int) == 0) <;> simp [mayF, h]
  · have hp := pure_is (k := k) (v := v) (l := l) (s := bs s) ⟨h1, h2⟩ (by rw [bs_size]; omega)
    rw [bs_list] at hp
    have e' : decide (k = 0) = false := decide_eq_false (by omega)
    simp only [hp, Option.bind_some, mayF, e', Bool.not_false, Bool.true_and, cond_false, show ((0 : Int) == 0) = true from rfl, cond_true]
    by_cases he : (s.length : Int) = l
    · simp [he]
    · have hb : ((s.length : Int) == l) = false := by simpa using he
      simp only [hb, cond_false]
      by_cases hv : v > 0
      · have hv0 : ¬ v = 0 := by omega
        by_cases hlt : (s.length : Int) < l
        · have : (s.length : Int) ≤ l := by omega
          simp [hv, hlt, this, hv0]
        · have : ¬ (s.length : Int) ≤ l := by omega
          simp [hv, hlt, this]
      · have hv0 : v = 0 := by omega
        subst hv0
        by_cases hlt : (s.length : Int) < l
        · simp [hlt]
        · have : ¬ (s.length : Int) ≤ l := by omega
          simp [this]
/-! ### digits -/
def digs (v : Int) (n : Nat) : List UInt8 := bif decide (v = 2) then [dgt (n / 10 % 10), dgt (n % 10)] else bif decide (v = 3) then [dgt (n / 100 % 10), dgt (n / 10 % 10), dgt (n % 10)] else []
theorem digs_len {v : Int} (hv : v = 0 ∨ v = 2 ∨ v = 3) (n : Nat) : ((digs v n).length : Int) = v := by rcases hv with rfl | rfl | rfl <;> rfl
theorem itoa_all : (List.range 1000).all (fun n => decide (itoaI ((1000 : Int) + (n : Int)) = [dgt 1, dgt (n / 100 % 10), dgt (n / 10 % 10), dgt (n % 10)])) = true := by kernel_rfl
theorem itoa_is {n : Nat} (h : n ≤ 999) : itoaI ((1000 : Int) + (n : Int)) = [dgt 1, dgt (n / 100 % 10), dgt (n / 10 % 10), dgt (n % 10)] := of_decide_eq_true (List.all_eq_true.1 itoa_all n (List.mem_range.2 (by omega)))
theorem digit_step {x : Nat} {d : List UInt8} (hx : x < 1000) (hd : d.length ≤ 10) (v i : Int) (hi : 0 ≤ i) (hi' : i < v) (hv : v ≤ 10) : bursarref16_digits.t4 ((x : Int), v, bs d, i) = some (.inl (((x / 10 : Nat) : Int), v, bs (dgt (x % 10) :: d), i + 1)) := by
  have e1 : Int.tmod (x : Int) 10 = ((x % 10 : Nat) : Int) := by rw [Int.tmod_eq_emod_of_nonneg (by omega)]; rfl
  have e2 : Int.tdiv (x : Int) 10 = ((x / 10 : Nat) : Int) := by rw [Int.tdiv_eq_ediv_of_nonneg (by omega)]; rfl
  have w1 : IntKind.wrap .i64 ((48 : Int) + ((x % 10 : Nat) : Int)) = ((48 + x % 10 : Nat) : Int) := by rw [wrap_i64 (by omega) (by omega)]; omega
  have w2 : IntKind.wrap .u8 ((48 + x % 10 : Nat) : Int) = ((48 + x % 10 : Nat) : Int) := by rw [wrap_u8]; omega
  have w3 : IntKind.wrap .i64 ((x / 10 : Nat) : Int) = ((x / 10 : Nat) : Int) := wrap_i64 (by omega) (by omega)
  have w4 : IntKind.wrap .i64 (i + 1) = i + 1 := wrap_i64 (by omega) (by omega)
  have hb : ByteArray.mk (List.toArray (List.map (fun y4 => UInt8.ofNat (Int.toNat y4)) [((48 + x % 10 : Nat) : Int)])) = bs [dgt (x % 10)] := rfl
  unfold bursarref16_digits.t4
  simp only [e1, e2, w1, w2, w3, w4, decide_eq_true hi', cond_true, hb, bs_size, bs_append]
  rw [Nat.ble_eq_true_of_le (by simp; omega)]
  rfl
theorem digits_is {v : Int} (hv : v = 0 ∨ v = 2 ∨ v = 3) {n : Nat} (hn : n ≤ 999) : bursarref16_digits.f ((n : Int), v) = some (bs (digs v n)) := by
  unfold bursarref16_digits.f bursarref16_digits.l4
  have fin : ∀ (x : Int) (d : List UInt8) (v : Int), bursarref16_digits.t4 (x, v, bs d, v) = some (.inr (bs d)) := fun x d v => by simp [bursarref16_digits.t4]
  rcases hv with rfl | rfl | rfl
  · rw [rounds_end (fin _ [] 0)]; rfl
  · rw [rounds_next (digit_step (x := n) (d := []) (by omega) (by simp) 2 0 (by omega) (by omega) (by omega)), rounds_next (digit_step (x := n / 10) (d := _) (by omega) (by simp) 2 (0 + 1) (by omega) (by omega) (by omega)), show (0 : Int) + 1 + 1 = 2 from rfl, rounds_end (fin _ _ 2)]
    rfl
  · rw [rounds_next (digit_step (x := n) (d := []) (by omega) (by simp) 3 0 (by omega) (by omega) (by omega)), rounds_next (digit_step (x := n / 10) (d := _) (by omega) (by simp) 3 (0 + 1) (by omega) (by omega) (by omega)), rounds_next (digit_step (x := n / 10 / 10) (d := _) (by omega) (by simp) 3 (0 + 1 + 1) (by omega) (by omega) (by omega)), show (0 : Int) + 1 + 1 + 1 = 3 from rfl, rounds_end (fin _ _ 3)]
    simp only [Option.bind_some, digs]
    rw [show n / 10 / 10 = n / 100 by omega]
    rfl
/-! ### packing -/
theorem mayF_len {k v l : Int} {s : List UInt8} (hk : okSpec k v l = true) (h : mayF k v l s = true) : 1 ≤ k ∧ k ≤ 4 ∧ (v = 0 ∨ v = 2 ∨ v = 3) ∧ (s.length : Int) ≤ l ∧ s.length ≤ 999 ∧ (v = 2 → s.length ≤ 99) ∧ (v = 0 → (s.length : Int) = l) ∧ s.all (okC k) = true := by
  simp only [mayF, Bool.and_eq_true, Bool.not_eq_true', decide_eq_false_iff_not, Bool.and_eq_false_iff, decide_eq_true_eq] at h
  obtain ⟨h0, h1, h2, h3⟩ := h
  rcases okSpec_is hk with ⟨rfl, _⟩ | ⟨g1, g2, g3, g4, g5⟩
  · exact absurd rfl h0
  · refine ⟨g1, g2, by omega, h1, by omega, by omega, fun hv => ?_, h3⟩
    rcases h2 with h2 | h2
    · exact absurd hv h2
    · omega
theorem refPack_is {n k v l : Int} {s : List UInt8} (hR : bursarref16_Of.f n = some (k, v, l)) (hk : okSpec k v l = true) (hs : s.length ≤ 5000) :
    bursarref16_Pack.f (n, bs s) = some (bif decide (k = 0) then (bs [], 7) else bif mayF k v l s then (bs (digs v s.length ++ s), 0) else (bs [], 16)) := by
  unfold bursarref16_Pack.f
  simp only [hR, Option.bind_some, refValid_is hR hk hs]
  by_cases h0 : k = 0
  · subst h0; rfl
  · have e : (k == 0) = false := by rw [beq_eq_false_iff_ne]; exact h0
    simp only [e, cond_false, decide_eq_false h0]
    cases hm : mayF k v l s
    · rfl
    · obtain ⟨_, _, h3, _, h5, _⟩ := mayF_len hk hm
      simp only [Bool.not_true, cond_false, cond_true, bs_size, digits_is h3 h5, Option.bind_some, bs_append]
      have := digs_len h3 s.length
      rw [Nat.ble_eq_true_of_le (by omega)]
      rfl
theorem pack_is {n k v l : Int} {s : List UInt8} (hO : spec_Of.f n = some ((k, v, l), bif decide (k = 0) then 7 else 0)) (hk : okSpec k v l = true) (hs : s.length ≤ 5000) :
    spec_Pack.f (n, bs s) = some (bif decide (k = 0) then (bs [], 7) else bif mayF k v l s then (bs (digs v s.length ++ s), 0) else (bs [], 16)) := by
  unfold spec_Pack.f
  simp only [hO, Option.bind_some, valid_is hO hk hs]
  by_cases h0 : k = 0
  · subst h0; rfl
  · simp only [decide_eq_false h0, cond_false, show ((0 : Int) != 0) = false from rfl]
    cases hm : mayF k v l s
    · rfl
    · obtain ⟨_, _, h3, _, h5, _⟩ := mayF_len hk hm
      have w : IntKind.wrap .i64 ((1000 : Int) + (s.length : Int)) = (1000 : Int) + (s.length : Int) := wrap_i64 (by omega) (by omega)
      have w2 : IntKind.wrap .i64 ((4 : Int) - v) = 4 - v := wrap_i64 (by omega) (by omega)
      have it : strconv_Itoa.f ((1000 : Int) + (s.length : Int)) = some (bs [dgt 1, dgt (s.length / 100 % 10), dgt (s.length / 10 % 10), dgt (s.length % 10)]) := by
        unfold strconv_Itoa.f
        rw [decide_eq_true (by omega), decide_eq_true (by omega), itoa_is h5]
        rfl
      have le0 : decide ((0 : Int) ≤ 4 - v) = true := decide_eq_true (by omega)
      have le1 : decide (4 - v ≤ (([dgt 1, dgt (s.length / 100 % 10), dgt (s.length / 10 % 10), dgt (s.length % 10)] : List UInt8).length : Int)) = true := decide_eq_true (by simp only [List.length_cons, List.length_nil]; omega)
      simp only [Bool.not_true, cond_false, cond_true, bs_size, w, w2, it, Option.bind_some, le0, le1, Bool.and_self, bs_extract, bs_append]
      have cut : (([dgt 1, dgt (s.length / 100 % 10), dgt (s.length / 10 % 10), dgt (s.length % 10)] : List UInt8).take ([dgt 1, dgt (s.length / 100 % 10), dgt (s.length / 10 % 10), dgt (s.length % 10)] : List UInt8).length).drop (4 - v).toNat = digs v s.length := by
        rcases h3 with rfl | rfl | rfl <;> rfl
      have := digs_len h3 s.length
      rw [cut, Nat.ble_eq_true_of_le (by omega)]
      rfl
/-! ### taking -/
def valD (l : List UInt8) : Nat := l.foldl (fun a c => 10 * a + (c.toNat - 48)) 0
theorem okN_dgt {c : UInt8} (h : okN c = true) : c.toNat - 48 < 10 ∧ c = dgt (c.toNat - 48) := by
  simp only [okN, Bool.and_eq_true, decide_eq_true_eq] at h
  refine ⟨by omega, ?_⟩
  apply UInt8.toNat_inj.1
  rw [dgt_nat (by omega)]
  omega
theorem atoi2 : (List.range 100).all (fun n => decide (atoiU [dgt (n / 10), dgt (n % 10)] = ((n : Int), false))) = true := by kernel_rfl
theorem atoi3 : (List.range 1000).all (fun n => decide (atoiU [dgt (n / 100), dgt (n / 10 % 10), dgt (n % 10)] = ((n : Int), false))) = true := by kernel_rfl
theorem atoi_is {l : List UInt8} (h : l.all okN = true) (hl : l.length = 2 ∨ l.length = 3) : strconv_Atoi.f (bs l) = some ((valD l : Int), false) := by
  have hsz : decide ((bs l).size ≤ 281474976710656) = true := decide_eq_true (by rw [bs_size]; omega)
  unfold strconv_Atoi.f
  rw [hsz, cond_true, bs_list]
  congr 1
  rcases hl with hl | hl
  · match l, hl with
    | [a, b], _ =>
      simp only [List.all_cons, List.all_nil, Bool.and_true, Bool.and_eq_true] at h
      obtain ⟨a1, a2⟩ := okN_dgt h.1
      obtain ⟨b1, b2⟩ := okN_dgt h.2
      obtain ⟨x, hx⟩ : ∃ x, a.toNat - 48 = x := ⟨_, rfl⟩
      obtain ⟨y, hy⟩ : ∃ x, b.toNat - 48 = x := ⟨_, rfl⟩
      rw [hx] at a1 a2
      rw [hy] at b1 b2
      have := of_decide_eq_true (List.all_eq_true.1 atoi2 (10 * x + y) (List.mem_range.2 (by omega)))
      rw [show (10 * x + y) / 10 = x by omega, show (10 * x + y) % 10 = y by omega] at this
      have hv : valD [a, b] = 10 * x + y := by simp only [valD, List.foldl_cons, List.foldl_nil, hx, hy]; omega
      rw [hv, ← this, ← a2, ← b2]
  · match l, hl with
    | [a, b, c], _ =>
      simp only [List.all_cons, List.all_nil, Bool.and_true, Bool.and_eq_true] at h
      obtain ⟨a1, a2⟩ := okN_dgt h.1
      obtain ⟨b1, b2⟩ := okN_dgt h.2.1
      obtain ⟨c1, c2⟩ := okN_dgt h.2.2
      obtain ⟨x, hx⟩ : ∃ x, a.toNat - 48 = x := ⟨_, rfl⟩
      obtain ⟨y, hy⟩ : ∃ x, b.toNat - 48 = x := ⟨_, rfl⟩
      obtain ⟨z, hz⟩ : ∃ x, c.toNat - 48 = x := ⟨_, rfl⟩
      rw [hx] at a1 a2
      rw [hy] at b1 b2
      rw [hz] at c1 c2
      have := of_decide_eq_true (List.all_eq_true.1 atoi3 (100 * x + 10 * y + z) (List.mem_range.2 (by omega)))
      rw [show (100 * x + 10 * y + z) / 100 = x by omega, show (100 * x + 10 * y + z) / 10 % 10 = y by omega, show (100 * x + 10 * y + z) % 10 = z by omega] at this
      have hv : valD [a, b, c] = 100 * x + 10 * y + z := by simp only [valD, List.foldl_cons, List.foldl_nil, hx, hy, hz]; omega
      rw [hv, ← this, ← a2, ← b2, ← c2]
theorem valD_le {l : List UInt8} (h : l.all okN = true) (hl : l.length = 2 ∨ l.length = 3) : valD l ≤ 999 := by
  rcases hl with hl | hl
  · match l, hl with
    | [a, b], _ =>
      simp only [List.all_cons, List.all_nil, Bool.and_true, Bool.and_eq_true] at h
      have := okN_dgt h.1
      have := okN_dgt h.2
      simp only [valD, List.foldl_cons, List.foldl_nil]; omega
  · match l, hl with
    | [a, b, c], _ =>
      simp only [List.all_cons, List.all_nil, Bool.and_true, Bool.and_eq_true] at h
      have := okN_dgt h.1
      have := okN_dgt h.2.1
      have := okN_dgt h.2.2
      simp only [valD, List.foldl_cons, List.foldl_nil]; omega
/-- behind the digits: so many octets -/
def bodyF (k : Int) (v m : Nat) (s : List UInt8) : List UInt8 × Int × Int := bif decide (s.length < v + m) then ([], 0, 3) else bif ((s.drop v).take m).all (okC k) then ((s.drop v).take m, ((v + m : Nat) : Int), 0) else ([], 0, 16)
def takeF (k : Int) (v l : Nat) (s : List UInt8) : List UInt8 × Int × Int :=
  bif decide (s.length < v) then ([], 0, 3) else bif decide (v = 0) then bodyF k 0 l s else bif (s.take v).all okN then (bif decide (l < valD (s.take v)) then ([], 0, 16) else bodyF k v (valD (s.take v)) s) else ([], 0, 16)
abbrev inB2 (x : List UInt8 × Int × Int) : ByteArray × Int × Int := (bs x.1, x.2)
theorem all_okC1 (l : List UInt8) : l.all (okC 1) = l.all okN := rfl
theorem take_is {n k v l : Int} {s : List UInt8} (hO : spec_Of.f n = some ((k, v, l), bif decide (k = 0) then 7 else 0)) (hk : okSpec k v l = true) (hs : s.length ≤ 5000) :
    spec_Take.f (n, bs s) = some (bif decide (k = 0) then (bs [], 0, 7) else inB2 (takeF k v.toNat l.toNat s)) := by
  unfold spec_Take.f
  simp only [hO, Option.bind_some]
  rcases okSpec_is hk with ⟨rfl, rfl, rfl⟩ | ⟨h1, h2, h3, h4, h5⟩
  · rfl
  have e' : decide (k = 0) = false := decide_eq_false (by omega)
  obtain ⟨v', rfl⟩ : ∃ v' : Nat, v = v' := ⟨v.toNat, by omega⟩
  obtain ⟨l', rfl⟩ : ∃ l' : Nat, l = l' := ⟨l.toNat, by omega⟩
  have cut : ∀ (m : Nat), v' ≤ 3 → m ≤ 999 → v' + m ≤ s.length → spec_pure.f ((k, (v' : Int), (l' : Int)), bs ((s.drop v').take m)) = some (((s.drop v').take m).all (okC k)) := fun m hv hm hle => by
    rw [pure_is ⟨h1, h2⟩ (by rw [bs_size]; simp; omega), bs_list]
  have cut' : ∀ m : Nat, (s.take (v' + m)).drop v' = (s.drop v').take m := fun m => by rw [List.drop_take]; congr 1; omega
  simp only [e', cond_false, show ((0 : Int) != 0) = false from rfl, bs_size, Int.toNat_natCast]
  unfold takeF
  by_cases hsv : s.length < v'
  · rw [decide_eq_true (show (s.length : Int) < (v' : Int) by omega), decide_eq_true hsv]; rfl
  rw [decide_eq_false (show ¬ (s.length : Int) < (v' : Int) by omega), decide_eq_false hsv]
  simp only [cond_false]
  by_cases hv0 : v' = 0
  · subst hv0
    rw [decide_eq_false (show ¬ ((0 : Nat) : Int) > 0 by omega), decide_eq_true rfl]
    have w : IntKind.wrap .i64 (((0 : Nat) : Int) + (l' : Int)) = ((0 + l' : Nat) : Int) := by rw [wrap_i64 (by omega) (by omega)]; omega
    simp only [cond_false, cond_true, w, Int.toNat_natCast, bs_extract]
    unfold bodyF
    by_cases hl : s.length < 0 + l'
    · rw [decide_eq_true (show (s.length : Int) < ((0 + l' : Nat) : Int) by omega), decide_eq_true hl]; rfl
    · rw [decide_eq_false (show ¬ (s.length : Int) < ((0 + l' : Nat) : Int) by omega), decide_eq_false hl, decide_eq_true (show (0 : Int) ≤ ((0 + l' : Nat) : Int) by omega), decide_eq_true (show ((0 + l' : Nat) : Int) ≤ (s.length : Int) by omega), decide_eq_true (show (0 : Int) ≤ ((0 : Nat) : Int) by omega), decide_eq_true (show ((0 : Nat) : Int) ≤ ((0 + l' : Nat) : Int) by omega)]
      simp only [cond_false, cond_true, Bool.and_self, cut l' (by omega) (by omega) (by omega), Option.bind_some, cut']
      cases ((s.drop 0).take l').all (okC k) <;> rfl
  · have hv : v' = 2 ∨ v' = 3 := by omega
    have hlen : (s.take v').length = v' := by rw [List.length_take]; omega
    have head : spec_pure.f ((1, 0, 0), bs (s.take v')) = some ((s.take v').all okN) := by rw [pure_is ⟨by omega, by omega⟩ (by rw [bs_size]; omega), bs_list, all_okC1]
    rw [decide_eq_true (show (v' : Int) > 0 by omega), decide_eq_false hv0, decide_eq_true (show (0 : Int) ≤ (v' : Int) by omega), decide_eq_true (show (v' : Int) ≤ (s.length : Int) by omega)]
    simp only [cond_true, cond_false, Bool.and_self, bs_extract, List.drop_zero, head, Option.bind_some]
    cases hd : (s.take v').all okN
    · rfl
    · have at' := atoi_is hd (by omega)
      have hm := valD_le hd (by omega)
      obtain ⟨m, hm'⟩ : ∃ m, valD (s.take v') = m := ⟨_, rfl⟩
      rw [hm'] at at' hm
      simp only [Bool.not_true, cond_false, cond_true, at', Option.bind_some, hm']
      have w : IntKind.wrap .i64 ((v' : Int) + (m : Int)) = ((v' + m : Nat) : Int) := by rw [wrap_i64 (by omega) (by omega)]; omega
      simp only [w, Int.toNat_natCast]
      by_cases hml : l' < m
      · rw [decide_eq_true (show (m : Int) > (l' : Int) by omega), decide_eq_true hml]; rfl
      rw [decide_eq_false (show ¬ (m : Int) > (l' : Int) by omega), decide_eq_false hml]
      unfold bodyF
      by_cases hl : s.length < v' + m
      · rw [decide_eq_true (show (s.length : Int) < ((v' + m : Nat) : Int) by omega), decide_eq_true hl]; rfl
      · rw [decide_eq_false (show ¬ (s.length : Int) < ((v' + m : Nat) : Int) by omega), decide_eq_false hl, decide_eq_true (show (0 : Int) ≤ ((v' + m : Nat) : Int) by omega), decide_eq_true (show ((v' + m : Nat) : Int) ≤ (s.length : Int) by omega), decide_eq_true (show ((v' : Nat) : Int) ≤ ((v' + m : Nat) : Int) by omega)]
        simp only [cond_false, cond_true, Bool.and_self, cut m (by omega) (by omega) (by omega), Option.bind_some, cut']
        cases ((s.drop v').take m).all (okC k) <;> rfl
theorem few_is (s : ByteArray) : ∃ l : List UInt8, l.length ≤ 1010 ∧ bursarlaw16_few.f s = some (bs l) := by
  rw [eq_bs s]
  unfold bursarlaw16_few.f
  simp only [bs_size]
  by_cases h : s.data.toList.length > 1010
  · rw [decide_eq_true (show (s.data.toList.length : Int) > 1010 by omega), decide_eq_true (show (1010 : Int) ≤ (s.data.toList.length : Int) by omega)]
    refine ⟨s.data.toList.take 1010, by simp; omega, ?_⟩
    simp [bs_extract]
  · rw [decide_eq_false (show ¬ (s.data.toList.length : Int) > 1010 by omega)]
    exact ⟨_, by omega, rfl⟩
end Go.Proofs.YtiifdejnmaohlaaDoor
end
section
/- The Go function bursarlaw16.awake, as a Lean function, and that it is this one. Written by a program of this session. -/
set_option linter.unusedVariables false
set_option maxRecDepth 100000
namespace Go.Proofs.YtiifdejnmaohlaaDoor
open Go Go.Fw
abbrev bursarlaw16_awake.row : Row := closedRow 17 (.b true)
theorem bursarlaw16_awake.row_ok : RowOK P G1 bursarlaw16_awake.row := closed_ok e0_ok (T := [strconv_Itoa.row, strconv_Atoi.row, spec_table.row, spec_kinds.row]) ⟨(strconv_Itoa.row_ok.more g01), ⟨strconv_Atoi.row_ok, ⟨spec_table.row_ok, ⟨(spec_kinds.row_ok.more g01), trivial⟩⟩⟩⟩ 80 (by kernel_rfl)
end Go.Proofs.YtiifdejnmaohlaaDoor
end
section
/- The Go function bursarlaw16.SpecPacks, as a Lean function, and that it is this one. Written by a program of this session. -/
set_option linter.unusedVariables false
set_option maxRecDepth 100000
namespace Go.Proofs.YtiifdejnmaohlaaDoor
open Go Go.Fw
abbrev bursarlaw16_SpecPacks.As : Shs := (.cons (.x (.i .i64)) (.cons (.x .s) (.cons (.x .s) .nil)))
abbrev bursarlaw16_SpecPacks.m : Back := [(false, .b)]
noncomputable abbrev bursarlaw16_SpecPacks.H : HK := hk P G1 E0 [bursarlaw16_few.row, spec_Pack.row, bursarref16_Pack.row, spec_Valid.row, bursarref16_Valid.row, bursarlaw16_awake.row, spec_Take.row] noLoops 4
theorem bursarlaw16_SpecPacks.rows : TabOK P G1 (tabF [bursarlaw16_few.row, spec_Pack.row, bursarref16_Pack.row, spec_Valid.row, bursarref16_Valid.row, bursarlaw16_awake.row, spec_Take.row]) := rows_ok (ws := [bursarlaw16_few.row, spec_Pack.row, bursarref16_Pack.row, spec_Valid.row, bursarref16_Valid.row, bursarlaw16_awake.row, spec_Take.row]) ⟨(bursarlaw16_few.row_ok.more g01), ⟨spec_Pack.row_ok, ⟨(bursarref16_Pack.row_ok.more g01), ⟨spec_Valid.row_ok, ⟨(bursarref16_Valid.row_ok.more g01), ⟨bursarlaw16_awake.row_ok, ⟨spec_Take.row_ok, trivial⟩⟩⟩⟩⟩⟩⟩
theorem bursarlaw16_SpecPacks.hok : HKOK P bursarlaw16_SpecPacks.H := hk_ok e0_ok bursarlaw16_SpecPacks.rows (fun g n => noLoops_ok g n) 4
noncomputable def bursarlaw16_SpecPacks.f (a : (Int × (ByteArray × ByteArray))) : Option Bool := (((bursarlaw16_few.f a.2.1)).bind fun (x3 : ByteArray) => (((bursarlaw16_few.f a.2.2)).bind fun (x4 : ByteArray) => (((spec_Pack.f (a.1, x3))).bind fun (x5 : (ByteArray × Int)) => (((bursarref16_Pack.f (a.1, x3))).bind fun (x6 : (ByteArray × Int)) => (bif (!((ByteArray.toList x5.1) == (ByteArray.toList x6.1))) then (some false) else (bif (x5.2 != x6.2) then (some false) else (((spec_Valid.f (a.1, x3))).bind fun (x7 : Bool) => (((bursarref16_Valid.f (a.1, x3))).bind fun (x8 : Bool) => (bif (!(x7 == x8)) then (some false) else (bif (x6.2 != (0 : Int)) then (some true) else (bif (Nat.ble (x5.1.size + x4.size) 9223372036854775807) then (((spec_Take.f (a.1, (x5.1 ++ x4)))).bind fun (x9 : (ByteArray × (Int × Int))) => (bif ((ByteArray.toList x9.1) == (ByteArray.toList x3)) then (bif (x9.2.1 == (x5.1.size : Int)) then (bif (x9.2.2 == (0 : Int)) then (some true) else (some false)) else (some false)) else (some false))) else none)))))))))))
theorem bursarlaw16_SpecPacks.ok : ∀ a : Vals bursarlaw16_SpecPacks.As.tys, fnK P bursarlaw16_SpecPacks.H (lp []) 3 bursarlaw16_SpecPacks.As bursarlaw16_SpecPacks.m a some = bursarlaw16_SpecPacks.f a := fun a => by kernel_rfl
noncomputable abbrev bursarlaw16_SpecPacks.row : Row := fnRow 3 bursarlaw16_SpecPacks.As bursarlaw16_SpecPacks.m bursarlaw16_SpecPacks.f
theorem bursarlaw16_SpecPacks.row_ok : RowOK P G1 bursarlaw16_SpecPacks.row := row_told bursarlaw16_SpecPacks.hok (lp_of (l := []) trivial) (fun _ => rfl) bursarlaw16_SpecPacks.ok
end Go.Proofs.YtiifdejnmaohlaaDoor
end
section
/- The Go function bursarlaw16.SpecApart, as a Lean function, and that it is this one. Written by a program of this session. -/
set_option linter.unusedVariables false
set_option maxRecDepth 100000
namespace Go.Proofs.YtiifdejnmaohlaaDoor
open Go Go.Fw
abbrev bursarlaw16_SpecApart.As : Shs := (.cons (.x (.i .i64)) (.cons (.x .s) (.cons (.x .s) .nil)))
abbrev bursarlaw16_SpecApart.m : Back := [(false, .b)]
noncomputable abbrev bursarlaw16_SpecApart.H : HK := hk P G1 E0 [bursarlaw16_few.row, spec_Pack.row, bursarlaw16_awake.row] noLoops 4
theorem bursarlaw16_SpecApart.rows : TabOK P G1 (tabF [bursarlaw16_few.row, spec_Pack.row, bursarlaw16_awake.row]) := rows_ok (ws := [bursarlaw16_few.row, spec_Pack.row, bursarlaw16_awake.row]) ⟨(bursarlaw16_few.row_ok.more g01), ⟨spec_Pack.row_ok, ⟨bursarlaw16_awake.row_ok, trivial⟩⟩⟩
theorem bursarlaw16_SpecApart.hok : HKOK P bursarlaw16_SpecApart.H := hk_ok e0_ok bursarlaw16_SpecApart.rows (fun g n => noLoops_ok g n) 4
noncomputable def bursarlaw16_SpecApart.f (a : (Int × (ByteArray × ByteArray))) : Option Bool := (((bursarlaw16_few.f a.2.1)).bind fun (x3 : ByteArray) => (((bursarlaw16_few.f a.2.2)).bind fun (x4 : ByteArray) => (((spec_Pack.f (a.1, x3))).bind fun (x5 : (ByteArray × Int)) => (((spec_Pack.f (a.1, x4))).bind fun (x6 : (ByteArray × Int)) => (bif (x5.2 != (0 : Int)) then (some true) else (bif (x6.2 != (0 : Int)) then (some true) else (bif (!(((ByteArray.toList x5.1) == (ByteArray.toList x6.1)) == ((ByteArray.toList x3) == (ByteArray.toList x4)))) then (some false) else (bif ((ByteArray.toList x3) == (ByteArray.toList x4)) then (some true) else (bif (decide (((x5.1.size : Int) > (x6.1.size : Int)))) then (some true) else (bif ((decide (((0 : Int) ≤ (x5.1.size : Int)))) && (decide (((x5.1.size : Int) ≤ (x6.1.size : Int))))) then (bif (!((ByteArray.toList (ByteArray.extract x6.1 0 (Int.toNat (x5.1.size : Int)))) == (ByteArray.toList x5.1))) then (some true) else (some false)) else none))))))))))
theorem bursarlaw16_SpecApart.ok : ∀ a : Vals bursarlaw16_SpecApart.As.tys, fnK P bursarlaw16_SpecApart.H (lp []) 4 bursarlaw16_SpecApart.As bursarlaw16_SpecApart.m a some = bursarlaw16_SpecApart.f a := fun a => by kernel_rfl
noncomputable abbrev bursarlaw16_SpecApart.row : Row := fnRow 4 bursarlaw16_SpecApart.As bursarlaw16_SpecApart.m bursarlaw16_SpecApart.f
theorem bursarlaw16_SpecApart.row_ok : RowOK P G1 bursarlaw16_SpecApart.row := row_told bursarlaw16_SpecApart.hok (lp_of (l := []) trivial) (fun _ => rfl) bursarlaw16_SpecApart.ok
end Go.Proofs.YtiifdejnmaohlaaDoor
end
section
/- The Go function bursarlaw16.SpecKinds, as a Lean function, and that it is this one. Written by a program of this session. -/
set_option linter.unusedVariables false
set_option maxRecDepth 100000
namespace Go.Proofs.YtiifdejnmaohlaaDoor
open Go Go.Fw
abbrev bursarlaw16_SpecKinds.As : Shs := (.cons (.x (.i .i64)) (.cons (.x .s) .nil))
abbrev bursarlaw16_SpecKinds.m : Back := [(false, .b)]
noncomputable abbrev bursarlaw16_SpecKinds.H : HK := hk P G1 E0 [bursarlaw16_few.row, spec_Valid.row, bursarlaw16_awake.row, spec_Take.row, spec_Of.row] noLoops 4
theorem bursarlaw16_SpecKinds.rows : TabOK P G1 (tabF [bursarlaw16_few.row, spec_Valid.row, bursarlaw16_awake.row, spec_Take.row, spec_Of.row]) := rows_ok (ws := [bursarlaw16_few.row, spec_Valid.row, bursarlaw16_awake.row, spec_Take.row, spec_Of.row]) ⟨(bursarlaw16_few.row_ok.more g01), ⟨spec_Valid.row_ok, ⟨bursarlaw16_awake.row_ok, ⟨spec_Take.row_ok, ⟨spec_Of.row_ok, trivial⟩⟩⟩⟩⟩
theorem bursarlaw16_SpecKinds.hok : HKOK P bursarlaw16_SpecKinds.H := hk_ok e0_ok bursarlaw16_SpecKinds.rows (fun g n => noLoops_ok g n) 4
noncomputable def bursarlaw16_SpecKinds.f (a : (Int × ByteArray)) : Option Bool := (((bursarlaw16_few.f a.2)).bind fun (x2 : ByteArray) => (((spec_Of.f a.1)).bind fun (x3 : ((Int × (Int × Int)) × Int)) => (((spec_Take.f (a.1, x2))).bind fun (x4 : (ByteArray × (Int × Int))) => (bif (x3.2 != (0 : Int)) then (bif (x3.2 == (7 : Int)) then (bif (x4.2.2 == (7 : Int)) then (((spec_Valid.f (a.1, x2))).bind fun (x5 : Bool) => (bif (!x5) then (bif ((x3.1.1 == (0 : Int)) && ((x3.1.2.1 == (0 : Int)) && ((x3.1.2.2 == (0 : Int)) && true))) then (some true) else (some false)) else (some false))) else (some false)) else (some false)) else (bif (decide ((x3.1.1 < (1 : Int)))) then (some false) else (bif (decide ((x3.1.1 > (4 : Int)))) then (some false) else (bif (x3.1.2.1 != (0 : Int)) then (bif (x3.1.2.1 != (2 : Int)) then (bif (x3.1.2.1 != (3 : Int)) then (some false) else (bif (decide ((x3.1.2.2 < (1 : Int)))) then (some false) else (bif (x4.2.2 != (0 : Int)) then (bif ((ByteArray.toList x4.1) == (ByteArray.toList (bs []))) then (bif (x4.2.1 == (0 : Int)) then (bif (x4.2.2 == (3 : Int)) then (some true) else (bif (x4.2.2 == (16 : Int)) then (some true) else (some false))) else (some false)) else (some false)) else (bif (x4.2.1 != (IntKind.wrap .i64 (x3.1.2.1 + (x4.1.size : Int)))) then (some false) else (bif (decide (((x4.1.size : Int) > x3.1.2.2))) then (some false) else (bif (x3.1.2.1 == (0 : Int)) then (bif ((x4.1.size : Int) != x3.1.2.2) then (some false) else (((spec_Valid.f (a.1, x4.1))).bind fun (x5 : Bool) => (bif (!x5) then (some false) else (bif ((decide (((0 : Int) ≤ x4.2.1))) && (decide ((x4.2.1 ≤ (x2.size : Int))))) then (bif ((decide (((0 : Int) ≤ x3.1.2.1))) && (decide ((x3.1.2.1 ≤ ((Int.toNat x4.2.1) : Int))))) then (bif (!((ByteArray.toList (ByteArray.extract x2 (Int.toNat x3.1.2.1) (Int.toNat x4.2.1))) == (ByteArray.toList x4.1))) then (some false) else (some true)) else none) else none)))) else (((spec_Valid.f (a.1, x4.1))).bind fun (x5 : Bool) => (bif (!x5) then (some false) else (bif ((decide (((0 : Int) ≤ x4.2.1))) && (decide ((x4.2.1 ≤ (x2.size : Int))))) then (bif ((decide (((0 : Int) ≤ x3.1.2.1))) && (decide ((x3.1.2.1 ≤ ((Int.toNat x4.2.1) : Int))))) then (bif (!((ByteArray.toList (ByteArray.extract x2 (Int.toNat x3.1.2.1) (Int.toNat x4.2.1))) == (ByteArray.toList x4.1))) then (some false) else (some true)) else none) else none))))))))) else (bif (decide ((x3.1.2.2 < (1 : Int)))) then (some false) else (bif (x4.2.2 != (0 : Int)) then (bif ((ByteArray.toList x4.1) == (ByteArray.toList (bs []))) then (bif (x4.2.1 == (0 : Int)) then (bif (x4.2.2 == (3 : Int)) then (some true) else (bif (x4.2.2 == (16 : Int)) then (some true) else (some false))) else (some false)) else (some false)) else (bif (x4.2.1 != (IntKind.wrap .i64 (x3.1.2.1 + (x4.1.size : Int)))) then (some false) else (bif (decide (((x4.1.size : Int) > x3.1.2.2))) then (some false) else (bif (x3.1.2.1 == (0 : Int)) then (bif ((x4.1.size : Int) != x3.1.2.2) then (some false) else (((spec_Valid.f (a.1, x4.1))).bind fun (x5 : Bool) => (bif (!x5) then (some false) else (bif ((decide (((0 : Int) ≤ x4.2.1))) && (decide ((x4.2.1 ≤ (x2.size : Int))))) then (bif ((decide (((0 : Int) ≤ x3.1.2.1))) && (decide ((x3.1.2.1 ≤ ((Int.toNat x4.2.1) : Int))))) then (bif (!((ByteArray.toList (ByteArray.extract x2 (Int.toNat x3.1.2.1) (Int.toNat x4.2.1))) == (ByteArray.toList x4.1))) then (some false) else (some true)) else none) else none)))) else (((spec_Valid.f (a.1, x4.1))).bind fun (x5 : Bool) => (bif (!x5) then (some false) else (bif ((decide (((0 : Int) ≤ x4.2.1))) && (decide ((x4.2.1 ≤ (x2.size : Int))))) then (bif ((decide (((0 : Int) ≤ x3.1.2.1))) && (decide ((x3.1.2.1 ≤ ((Int.toNat x4.2.1) : Int))))) then (bif (!((ByteArray.toList (ByteArray.extract x2 (Int.toNat x3.1.2.1) (Int.toNat x4.2.1))) == (ByteArray.toList x4.1))) then (some false) else (some true)) else none) else none))))))))) else (bif (decide ((x3.1.2.2 < (1 : Int)))) then (some false) else (bif (x4.2.2 != (0 : Int)) then (bif ((ByteArray.toList x4.1) == (ByteArray.toList (bs []))) then (bif (x4.2.1 == (0 : Int)) then (bif (x4.2.2 == (3 : Int)) then (some true) else (bif (x4.2.2 == (16 : Int)) then (some true) else (some false))) else (some false)) else (some false)) else (bif (x4.2.1 != (IntKind.wrap .i64 (x3.1.2.1 + (x4.1.size : Int)))) then (some false) else (bif (decide (((x4.1.size : Int) > x3.1.2.2))) then (some false) else (bif (x3.1.2.1 == (0 : Int)) then (bif ((x4.1.size : Int) != x3.1.2.2) then (some false) else (((spec_Valid.f (a.1, x4.1))).bind fun (x5 : Bool) => (bif (!x5) then (some false) else (bif ((decide (((0 : Int) ≤ x4.2.1))) && (decide ((x4.2.1 ≤ (x2.size : Int))))) then (bif ((decide (((0 : Int) ≤ x3.1.2.1))) && (decide ((x3.1.2.1 ≤ ((Int.toNat x4.2.1) : Int))))) then (bif (!((ByteArray.toList (ByteArray.extract x2 (Int.toNat x3.1.2.1) (Int.toNat x4.2.1))) == (ByteArray.toList x4.1))) then (some false) else (some true)) else none) else none)))) else (((spec_Valid.f (a.1, x4.1))).bind fun (x5 : Bool) => (bif (!x5) then (some false) else (bif ((decide (((0 : Int) ≤ x4.2.1))) && (decide ((x4.2.1 ≤ (x2.size : Int))))) then (bif ((decide (((0 : Int) ≤ x3.1.2.1))) && (decide ((x3.1.2.1 ≤ ((Int.toNat x4.2.1) : Int))))) then (bif (!((ByteArray.toList (ByteArray.extract x2 (Int.toNat x3.1.2.1) (Int.toNat x4.2.1))) == (ByteArray.toList x4.1))) then (some false) else (some true)) else none) else none)))))))))))))))
theorem bursarlaw16_SpecKinds.ok : ∀ a : Vals bursarlaw16_SpecKinds.As.tys, fnK P bursarlaw16_SpecKinds.H (lp []) 5 bursarlaw16_SpecKinds.As bursarlaw16_SpecKinds.m a some = bursarlaw16_SpecKinds.f a := fun a => by kernel_rfl
noncomputable abbrev bursarlaw16_SpecKinds.row : Row := fnRow 5 bursarlaw16_SpecKinds.As bursarlaw16_SpecKinds.m bursarlaw16_SpecKinds.f
theorem bursarlaw16_SpecKinds.row_ok : RowOK P G1 bursarlaw16_SpecKinds.row := row_told bursarlaw16_SpecKinds.hok (lp_of (l := []) trivial) (fun _ => rfl) bursarlaw16_SpecKinds.ok
end Go.Proofs.YtiifdejnmaohlaaDoor
end
section
/- Fields are packed and taken as the document says: plain laws. By this session. -/
set_option linter.unusedVariables false
set_option linter.unusedSimpArgs false
namespace Go.Proofs.YtiifdejnmaohlaaDoor
open Go Go.Fw
theorem digs_okN {v : Int} {n : Nat} : (digs v n).all okN = true := by
  unfold digs
  have h : ∀ x, okN (dgt (x % 10)) = true := fun x => by
    have := dgt_nat (n := x % 10) (by omega)
    simp only [okN, this, Bool.and_eq_true, decide_eq_true_eq]; omega
  by_cases h2 : v = 2
  · rw [decide_eq_true h2]; simp only [cond_true, List.all_cons, List.all_nil, h, Bool.and_self]
  · by_cases h3 : v = 3
    · rw [decide_eq_false h2, decide_eq_true h3]; simp only [cond_true, cond_false, List.all_cons, List.all_nil, h, Bool.and_self]
    · rw [decide_eq_false h2, decide_eq_false h3]; rfl
theorem digs_val {v : Int} {n : Nat} (h : (v = 2 ∧ n ≤ 99) ∨ (v = 3 ∧ n ≤ 999)) : valD (digs v n) = n := by
  have h' : ∀ x, (dgt (x % 10)).toNat - 48 = x % 10 := fun x => by
    have := dgt_nat (n := x % 10) (by omega); omega
  rcases h with ⟨rfl, h⟩ | ⟨rfl, h⟩
  · show valD [dgt (n / 10 % 10), dgt (n % 10)] = n
    simp only [valD, List.foldl_cons, List.foldl_nil, h']; omega
  · show valD [dgt (n / 100 % 10), dgt (n / 10 % 10), dgt (n % 10)] = n
    simp only [valD, List.foldl_cons, List.foldl_nil, h']; omega
/-- what is packed is taken as it was -/
theorem takeF_digs {k v l : Int} {s b : List UInt8} (hk : okSpec k v l = true) (hm : mayF k v l s = true) : takeF k v.toNat l.toNat (digs v s.length ++ s ++ b) = (s, ((digs v s.length ++ s).length : Int), 0) := by
  obtain ⟨h1, h2, h3, h4, h5, h6, h7, h8⟩ := mayF_len hk hm
  have hl := digs_len h3 s.length
  obtain ⟨v', rfl⟩ : ∃ v' : Nat, v = v' := ⟨v.toNat, by omega⟩
  obtain ⟨l', rfl⟩ : ∃ l' : Nat, l = l' := ⟨l.toNat, by
    rcases okSpec_is hk with ⟨_, _, rfl⟩ | ⟨_, _, _, h, _⟩ <;> omega⟩
  have hl' : (digs (v' : Int) s.length).length = v' := by omega
  have tk : (digs (v' : Int) s.length ++ s ++ b).take v' = digs (v' : Int) s.length := by rw [List.append_assoc, List.take_append_of_le_length (by omega), List.take_of_length_le (by omega)]
  have dr : (digs (v' : Int) s.length ++ s ++ b).drop v' = s ++ b := by
    rw [List.append_assoc, List.drop_append_of_le_length (by omega), List.drop_of_length_le (by omega), List.nil_append]
  have body : bodyF k v' s.length (digs (v' : Int) s.length ++ s ++ b) = (s, ((digs (v' : Int) s.length ++ s).length : Int), 0) := by
    unfold bodyF
    rw [decide_eq_false (by simp only [List.length_append]; omega), cond_false, dr, List.take_left, h8, cond_true]
    simp only [List.length_append, hl']
  unfold takeF
  simp only [Int.toNat_natCast]
  rw [decide_eq_false (by simp only [List.length_append]; omega), cond_false]
  simp only [tk, digs_okN, cond_true]
  by_cases hv : v' = 0
  · subst hv
    rw [decide_eq_true rfl, cond_true]
    have : s.length = l' := by have := h7 rfl; omega
    rw [← this]
    exact body
  · have hd : valD (digs (v' : Int) s.length) = s.length := digs_val (by omega)
    simp only [decide_eq_false hv, cond_false, hd, decide_eq_false (show ¬ l' < s.length by omega)]
    exact body
theorem SpecPacks_is (a : Int × ByteArray × ByteArray) : bursarlaw16_SpecPacks.f a = some true := by
  obtain ⟨n, s0, b0⟩ := a
  obtain ⟨s, hs, e1⟩ := few_is s0
  obtain ⟨b, hb, e2⟩ := few_is b0
  obtain ⟨k, v, l, hR, hO, hk⟩ := of_is n
  unfold bursarlaw16_SpecPacks.f
  simp only [e1, e2, Option.bind_some, pack_is hO hk (show s.length ≤ 5000 by omega), refPack_is hR hk (show s.length ≤ 5000 by omega), refValid_is hR hk (show s.length ≤ 5000 by omega), valid_is hO hk (show s.length ≤ 5000 by omega), texts_eq, decide_true, Bool.not_true, cond_false, bne_self_eq_false, beq_self_eq_true]
  by_cases h0 : k = 0
  · subst h0; rfl
  simp only [decide_eq_false h0, cond_false]
  cases hm : mayF k v l s
  · rfl
  obtain ⟨h1, h2, h3, h4, h5, h6, h7, h8⟩ := mayF_len hk hm
  have hl := digs_len h3 s.length
  simp only [cond_true, show ((0 : Int) != 0) = false from rfl, cond_false, bs_size, bs_append]
  rw [Nat.ble_eq_true_of_le (by simp only [List.length_append]; omega), cond_true, take_is hO hk (by simp only [List.length_append]; omega), decide_eq_false h0, cond_false, takeF_digs hk hm]
  simp only [inB2, Option.bind_some, texts_eq, decide_true, cond_true, beq_self_eq_true]
theorem SpecApart_is (a : Int × ByteArray × ByteArray) : bursarlaw16_SpecApart.f a = some true := by
  obtain ⟨n, s0, b0⟩ := a
  obtain ⟨s, hs, e1⟩ := few_is s0
  obtain ⟨t, ht, e2⟩ := few_is b0
  obtain ⟨k, v, l, hR, hO, hk⟩ := of_is n
  unfold bursarlaw16_SpecApart.f
  simp only [e1, e2, Option.bind_some, pack_is hO hk (show s.length ≤ 5000 by omega), pack_is hO hk (show t.length ≤ 5000 by omega), texts_eq]
  by_cases h0 : k = 0
  · subst h0; rfl
  simp only [decide_eq_false h0, cond_false]
  cases hm : mayF k v l s
  · rfl
  cases hm' : mayF k v l t
  · rfl
  obtain ⟨h1, h2, h3, h4, h5, h6, h7, h8⟩ := mayF_len hk hm
  obtain ⟨_, _, _, g4, g5, g6, g7, g8⟩ := mayF_len hk hm'
  have hl := digs_len h3 s.length
  have hl' := digs_len h3 t.length
  -- one that begins with the other is it
  have key : ∀ b, digs v s.length ++ s ++ b = digs v t.length ++ t → s = t := fun b e => by
    have hp := takeF_digs (b := b) hk hm
    have hq := takeF_digs (b := []) hk hm'
    rw [List.append_nil] at hq
    rw [e, hq] at hp
    exact (Prod.mk.inj hp).1.symm
  have inj : (decide (bs (digs v s.length ++ s) = bs (digs v t.length ++ t)) == decide (bs s = bs t)) = true := by
    rw [beq_iff_eq, Bool.eq_iff_iff, decide_eq_true_eq, decide_eq_true_eq, bs_inj, bs_inj]
    constructor
    · intro e; exact key [] (by rw [List.append_nil]; exact e)
    · intro e; rw [e]
  simp only [cond_true, show ((0 : Int) != 0) = false from rfl, cond_false, bs_size]
  rw [inj]
  simp only [Bool.not_true, cond_false]
  by_cases he : s = t
  · subst he; simp
  · have hd : decide (bs s = bs t) = false := decide_eq_false (fun h => he (bs_inj.1 h))
    rw [hd, cond_false]
    by_cases hgt : ((digs v s.length ++ s).length : Int) > ((digs v t.length ++ t).length : Int)
    · rw [decide_eq_true hgt]; rfl
    · rw [decide_eq_false hgt, cond_false, decide_eq_true (by omega), decide_eq_true (by omega)]
      simp only [Bool.and_self, cond_true, bs_extract, Int.toNat_natCast, List.drop_zero]
      rw [decide_eq_false]
      · rfl
      · intro h
        have h := bs_inj.1 h
        refine he (key ((digs v t.length ++ t).drop (digs v s.length ++ s).length) ?_)
        conv => lhs; lhs; rw [← h]
        exact List.take_append_drop _ _
theorem SpecKinds_is (a : Int × ByteArray) : bursarlaw16_SpecKinds.f a = some true := by
  obtain ⟨n, s0⟩ := a
  obtain ⟨s, hs, e1⟩ := few_is s0
  obtain ⟨k, v, l, hR, hO, hk⟩ := of_is n
  unfold bursarlaw16_SpecKinds.f
  simp only [e1, Option.bind_some, hO, take_is hO hk (show s.length ≤ 5000 by omega), valid_is hO hk (show s.length ≤ 5000 by omega), texts_eq]
  rcases okSpec_is hk with ⟨rfl, rfl, rfl⟩ | ⟨h1, h2, h3, h4, h5⟩
  · simp [mayF]
  have h0 : k ≠ 0 := by omega
  obtain ⟨v', rfl⟩ : ∃ v' : Nat, v = v' := ⟨v.toNat, by omega⟩
  obtain ⟨l', rfl⟩ : ∃ l' : Nat, l = l' := ⟨l.toNat, by omega⟩
  simp only [decide_eq_false h0, cond_false, show ((0 : Int) != 0) = false from rfl, decide_eq_false (show ¬ k < 1 by omega), decide_eq_false (show ¬ k > 4 by omega), decide_eq_false (show ¬ (l' : Int) < 1 by omega), Int.toNat_natCast]
  -- what is taken
  have body : ∀ m : Nat, m ≤ 999 → v' ≤ 3 → (m : Int) ≤ l' → (v' = 0 → m = l') → (∃ e : Int, bodyF k v' m s = ([], 0, e) ∧ (e = 3 ∨ e = 16)) ∨ (bodyF k v' m s = ((s.drop v').take m, ((v' + m : Nat) : Int), 0) ∧ v' + m ≤ s.length ∧ ((s.drop v').take m).length = m ∧ mayF k v' l' ((s.drop v').take m) = true) := fun m hm hv hml h0' => by
    unfold bodyF
    by_cases hl : s.length < v' + m
    · left; exact ⟨3, by rw [decide_eq_true hl]; rfl, .inl rfl⟩
    · rw [decide_eq_false hl, cond_false]
      have hlen : ((s.drop v').take m).length = m := by rw [List.length_take, List.length_drop]; omega
      cases ha : ((s.drop v').take m).all (okC k)
      · left; exact ⟨16, rfl, .inr rfl⟩
      · right
        refine ⟨rfl, by omega, hlen, ?_⟩
        simp only [mayF, hlen, ha, Bool.and_true, decide_eq_false h0, Bool.not_false, Bool.true_and, Bool.and_eq_true, Bool.not_eq_true', decide_eq_true_eq, Bool.and_eq_false_iff, decide_eq_false_iff_not]
        refine ⟨hml, ?_⟩
        by_cases hv0 : v' = 0
        · right; have := h0' hv0; omega
        · left; omega
  have tk : (∃ e : Int, takeF k v' l' s = ([], 0, e) ∧ (e = 3 ∨ e = 16)) ∨ ∃ m : Nat, m ≤ 999 ∧ (m : Int) ≤ l' ∧ (v' = 0 → m = l') ∧ takeF k v' l' s = ((s.drop v').take m, ((v' + m : Nat) : Int), 0) ∧ v' + m ≤ s.length ∧ ((s.drop v').take m).length = m ∧ mayF k v' l' ((s.drop v').take m) = true := by
    unfold takeF
    by_cases hsv : s.length < v'
    · left; exact ⟨3, by rw [decide_eq_true hsv]; rfl, .inl rfl⟩
    rw [decide_eq_false hsv, cond_false]
    by_cases hv : v' = 0
    · subst hv
      rw [decide_eq_true rfl, cond_true]
      rcases body l' (by omega) (by omega) (by omega) (fun _ => rfl) with h | h
      · exact .inl h
      · exact .inr ⟨l', by omega, by omega, fun _ => rfl, h⟩
    · rw [decide_eq_false hv, cond_false]
      cases hd : (s.take v').all okN
      · left; exact ⟨16, rfl, .inr rfl⟩
      · have hm := valD_le hd (by rw [List.length_take]; omega)
        rw [cond_true]
        by_cases hml : l' < valD (s.take v')
        · left; exact ⟨16, by rw [decide_eq_true hml]; rfl, .inr rfl⟩
        · rw [decide_eq_false hml, cond_false]
          rcases body (valD (s.take v')) hm (by omega) (by omega) (fun h => absurd h hv) with h | h
          · exact .inl h
          · exact .inr ⟨_, hm, by omega, fun h => absurd h hv, h⟩
  rcases tk with ⟨e, ht, he⟩ | ⟨m, hm, hml, hm0, ht, hle, hlen, hmay⟩
  · rw [ht]
    simp only [inB2, decide_true, cond_true]
    rcases h3 with h3 | ⟨h3, _⟩ | h3 <;> rcases he with rfl | rfl <;> rw [h3] <;> rfl
  · rw [ht]
    have w : IntKind.wrap .i64 ((v' : Int) + (m : Int)) = ((v' + m : Nat) : Int) := by rw [wrap_i64 (by omega) (by omega)]; omega
    have vd := valid_is (s := (s.drop v').take m) hO hk (by omega)
    have cut' : (s.take (v' + m)).drop v' = (s.drop v').take m := by rw [List.drop_take]; congr 1; omega
    simp only [inB2, bs_size, hlen, w, bne_self_eq_false, cond_false, decide_eq_false (show ¬ (m : Int) > (l' : Int) by omega), vd, hmay, Option.bind_some, Bool.not_true, decide_eq_true (show (0 : Int) ≤ ((v' + m : Nat) : Int) by omega), decide_eq_true (show ((v' + m : Nat) : Int) ≤ (s.length : Int) by omega), decide_eq_true (show (0 : Int) ≤ (v' : Int) by omega), Int.toNat_natCast, decide_eq_true (show (v' : Int) ≤ ((v' + m : Nat) : Int) by omega), Bool.and_self, cond_true, bs_extract, cut', decide_true, show ((0 : Int) != 0) = false from rfl]
    by_cases hv0 : v' = 0
    · have := hm0 hv0
      subst this
      subst hv0
      simp
    · have e0 : ((v' : Int) == 0) = false := by rw [beq_eq_false_iff_ne]; omega
      simp only [e0, cond_false, decide_eq_true (show (0 : Int) ≤ ((v' + m : Nat) : Int) by omega), decide_eq_true (show (v' : Int) ≤ ((v' + m : Nat) : Int) by omega), Bool.and_self, Bool.true_and, Bool.and_true, cond_true]
      rcases h3 with h3 | ⟨h3, _⟩ | h3
      · exact absurd h3 (by omega)
      · rw [h3]; simp
      · rw [h3]; simp
end Go.Proofs.YtiifdejnmaohlaaDoor
end
section
/- Two texts of a field are packed the same just if they are the same; no packed one is the beginning of another one. -/
set_option linter.unusedVariables false
set_option linter.unusedSimpArgs false
namespace Go.Proofs.YtiifdejnmaohlaaDoor.specApart
open Go Go.Fw Go.ChangeShapes Go.WideShapes Go.ChangeAt Go.RowKit
theorem own : ownKnob Tryd.prog.godebug = none := by kernel_rfl
theorem laidOut : laidOutB Tryd.prog = true := by kernel_rfl
set_option maxRecDepth 100000 in
theorem told {W : World} (h : laidMetH Tryd.prog Rows.specApartRow.laid W) : Glob ⟨W, fun b => b < W.heap.size, fun _ => False, fun _ => 0, fun _ => 0, G1⟩ := by
  rw [MakeChecks.laidMetH_plain _ _ _ (by kernel_rfl)] at h
  have f4 := globAt_tab (P := Tryd.prog) (g := 4) (k := .u64) (zs := [1, 10, 100, 1000, 10000, 100000, 1000000, 10000000, 100000000, 1000000000, 10000000000, 100000000000, 1000000000000, 10000000000000, 100000000000000, 1000000000000000, 10000000000000000, 100000000000000000, 1000000000000000000, 10000000000000000000]) (by kernel_rfl) (Lib.tabIs_of_head (g := 4) (by kernel_rfl) (by kernel_rfl) Tryd.underlying142 Tryd.underlying114 (by kernel_rfl) (by kernel_rfl) (laidMet.tail (laidMet.tail h)))
  have f2 := globAt_err (P := Tryd.prog) (g := 2) (by kernel_rfl) (laid_err (g := 2) (laidMet.tail (laidMet.tail (laidMet.tail (laidMet.tail h)))) (by kernel_rfl) (by kernel_rfl) Tryd.underlying66)
  have f1 := globAt_err (P := Tryd.prog) (g := 1) (by kernel_rfl) (laid_err (g := 1) (laidMet.tail (laidMet.tail (laidMet.tail (laidMet.tail (laidMet.tail h))))) (by kernel_rfl) (by kernel_rfl) Tryd.underlying66)
  have f0 := globAt_tab (P := Tryd.prog) (g := 0) (k := .u8) (zs := [0, 0, 0, 0, 0, 0, 0, 0, 0, 1, 1, 1, 1, 1, 0, 0, 0, 0, 0, 0, 0, 0, 0, 0, 0, 0, 0, 0, 0, 0, 0, 0, 1, 0, 0, 0, 0, 0, 0, 0, 0, 0, 0, 0, 0, 0, 0, 0, 0, 0, 0, 0, 0, 0, 0, 0, 0, 0, 0, 0, 0, 0, 0, 0, 0, 0, 0, 0, 0, 0, 0, 0, 0, 0, 0, 0, 0, 0, 0, 0, 0, 0, 0, 0, 0, 0, 0, 0, 0, 0, 0, 0, 0, 0, 0, 0, 0, 0, 0, 0, 0, 0, 0, 0, 0, 0, 0, 0, 0, 0, 0, 0, 0, 0, 0, 0, 0, 0, 0, 0, 0, 0, 0, 0, 0, 0, 0, 0, 0, 0, 0, 0, 0, 0, 0, 0, 0, 0, 0, 0, 0, 0, 0, 0, 0, 0, 0, 0, 0, 0, 0, 0, 0, 0, 0, 0, 0, 0, 0, 0, 0, 0, 0, 0, 0, 0, 0, 0, 0, 0, 0, 0, 0, 0, 0, 0, 0, 0, 0, 0, 0, 0, 0, 0, 0, 0, 0, 0, 0, 0, 0, 0, 0, 0, 0, 0, 0, 0, 0, 0, 0, 0, 0, 0, 0, 0, 0, 0, 0, 0, 0, 0, 0, 0, 0, 0, 0, 0, 0, 0, 0, 0, 0, 0, 0, 0, 0, 0, 0, 0, 0, 0, 0, 0, 0, 0, 0, 0, 0, 0, 0, 0, 0, 0, 0, 0, 0, 0, 0, 0, 0, 0, 0, 0, 0, 0]) (by kernel_rfl) (Lib.tabIs_of_head (g := 0) (by kernel_rfl) (by kernel_rfl) Tryd.underlying106 Tryd.underlying5 (by kernel_rfl) (by kernel_rfl) (laidMet.tail (laidMet.tail (laidMet.tail (laidMet.tail (laidMet.tail (laidMet.tail (laidMet.tail h))))))))
  exact (glob_cons f4 (glob_cons f0 (glob_cons f1 (glob_cons f2 glob_none'))))
set_option maxRecDepth 100000 in
theorem lifted (os : Os) (started : os.Started) (H : Type) (enc : TypeId × Value → H) :
    ReturnsInHanded {} Tryd.checked os 4 .any (fun w args => (Rows.specApartSpec.pre enc Tryd.prog Tryd.f4 [] false w args ∧ laidMetH Tryd.prog Rows.specApartRow.laid w) ∧ sizedMet enc Tryd.prog Tryd.f4 (OpenSpec.ofChange Rows.specApartSpec) false w args)
      (Rows.specApartSpec.post enc Tryd.prog Tryd.f4 false true false false) := by
  refine returnsInHanded_of_change_and (C := Tryd.checked) (X := fun w _ => laidMetH Tryd.prog Rows.specApartRow.laid w) (fun _ _ _ hh h => h.of_heap hh) own started (by kernel_rfl) Tryd.func4
    (ChangeSpec.witness_shaped (enc := enc) (C := Tryd.checked) (os := os) (X := fun w _ => laidMetH Tryd.prog Rows.specApartRow.laid w) false (World.laidAll Tryd.prog os Rows.specApartRow.laid) #[.int .i64 0, .string ByteArray.empty, .string ByteArray.empty] 8 (World.laidAll_os _ _ _) (World.shaped_of_ZipB (by kernel_rfl) (by kernel_rfl)) (by kernel_rfl) (by kernel_rfl) (by kernel_rfl) (by rw [MakeChecks.laidMetH_plain _ _ _ (by kernel_rfl)]; exact laidMet_laidAll _ (by kernel_rfl) (by kernel_rfl))) ?_
  intro W base args ds gs before hval hW _ _ hL _
  exact law_call (P := Tryd.prog) (g := 4) (tb := Tryd.f4.resultTypes.getD 0 0) laidOut bursarlaw16_SpecApart.row_ok (told hL) (by kernel_rfl) (fun a => by kernel_rfl) (by kernel_rfl) (by kernel_rfl) rfl
    (fun ds h => match ds, h with | [_, _, _], _ => ⟨rfl, rfl, rfl⟩) (fun a ha => SpecApart_is a) hval hW
set_option maxRecDepth 100000 in
theorem over : Rows.specApartRow.holds Tryd.pinned (OpenSpec.ofChange Rows.specApartSpec) :=
  OpenClaim.holds_of_wide 4 Tryd.f4 rfl rfl rfl rfl rfl rfl rfl ⟨rfl, rfl, rfl, rfl, rfl⟩ rfl rfl rfl rfl rfl (by kernel_rfl) Tryd.func4 (by kernel_rfl)
    (of_decide_eq_true (by kernel_rfl)) (by unfold Func.isWrapper; first | (rw [if_pos (by decide +kernel)]; kernel_rfl) | (rw [if_neg (by decide +kernel)]; exact ⟨rfl, rfl⟩))
    (fun os started H enc _ => lifted os started H enc)
theorem plainParams : (Tryd.f4.params.toList.all fun t => !(Tryd.prog.wantsStandIn t)) = true := by kernel_rfl
theorem card : Rows.SpecApartCardSaid :=
  Claim7.holds_tied_plain_at .later [] [.data, .data, .data, .data, .sentinel, .sentinel, .listed, .data, .pinned] true (true, "13b24e5dfa25163ab2f1a08fa0e087a30c90e3f1aeac505018b9aabea3771cef") true
    over (fun _ h => by cases h) (by kernel_rfl) (fun _ h => by cases h) specApart_row_tie rfl ⟨rfl, rfl⟩ (by kernel_rfl) rfl
    (fun f fn hf hfn => by
      obtain rfl : f = 4 := Option.some.inj ((show Tryd.prog.funcNamed "bursar/bursarlaw16.SpecApart" = some 4 by kernel_rfl).symm.trans hf) |>.symm
      obtain rfl : fn = Tryd.f4 := (Option.some.inj (Tryd.func4.symm.trans hfn)).symm
      exact ⟨by kernel_rfl, fun j t ht => by
        have h := List.all_eq_true.1 plainParams t (by rw [← Array.getElem?_toList] at ht; exact List.mem_of_getElem? ht)
        exact (show Tryd.prog.wantsStandIn t = false by simpa using h)⟩)
    (by kernel_rfl)
end Go.Proofs.YtiifdejnmaohlaaDoor.specApart
namespace Go.Proofs.YtiifdejnmaohlaaDoor
/-- The given statement. -/
theorem specApart_holds : Rows.SpecApartCardSaid := specApart.card
#print axioms specApart_holds
end Go.Proofs.YtiifdejnmaohlaaDoor
end
