/- Part 5 of what the proof of this statement stands on: An entry the other way round may be, and does the contrary on each account; the other way round again it is as it was. -/
import Derived.WalkKit
import Derived.ProofKit
import Derived.OpenShut
import Derived.ShutString
import Derived.ChangeOld
import Derived.Carry
import Derived.Below
import Derived.SizedLaws
import Derived.Test.YtnnebljljmpdkaaDoorProg
import Derived.KernelRfl
import Derived.Laws.Externs
import Derived.Lib.Bytealg
import Derived.Laws.Strings
import Derived.Lib.ParseIntB
import Derived.Lib.ItoaNum
import Derived.Laws.RangeString
import Derived.Deep.Draws
import Derived.Shelf.LaysM
import Derived.Shelf.Strconv.Itoa3
import Derived.Shelf.Strconv.Itoa1
import Derived.Shelf.Strconv.Itoa2
import Derived.Lib.Walk
import Derived.Lib.ItoaMem
import Derived.BigCall
import Derived.BigGuard
import Derived.Shelf.Pu.ParseUintPublic10
import Derived.Shelf.Pu.ErrVarParseUint
import Derived.Test.YtnnebljljmpdkaaDoorW4
section
/- A law's call, from its arguments as they may be read: it returns true, and what was handed in reads as it did. By this session. -/
set_option linter.unusedVariables false
set_option linter.unusedSimpArgs false
namespace Go.Fw
open Go.ChangeShapes Go.WideShapes Go.ChangeAt Go.RowKit
/-- are these types of the program these of plain data? -/
def okTys (P : Program) : List TypeId → List Ty → Bool
  | [], [] => true
  | t :: ts, T :: Ts => okTy P 40 t T && (P.readableRec t && (decide (t < P.types.size) && okTys P ts Ts))
  | _, _ => false
def FitAll : (Ts : List Ty) → Vals Ts → Prop
  | [], _ => True
  | [T], x => T.fit x
  | T :: T' :: Ts, x => T.fit x.1 ∧ FitAll (T' :: Ts) x.2
section
variable {P : Program} {H : Type} {enc : TypeId × Value → H} {W : World} {base : Nat}
theorem read_all : ∀ {ts : List TypeId} {Ts : List Ty} {vs : List Value} {ds : List (DataW H)} {ps : List MemPlace}, okTys P ts Ts = true → DataW.TrodAll enc P W 0 (fun _ => true) true ts vs ds ps →
    (∀ (j : Nat) t v, ts[j]? = some t → vs[j]? = some v → Value.okWide P W .any base t v) →
    ∃ a : Vals Ts, FitAll Ts a ∧ ds.length = ts.length ∧ vs.length = (elts Ts a).length ∧ (∀ (j : Nat) (d : D), (elts Ts a)[j]? = some d → ∃ v, vs[j]? = some v ∧ RelD W (fun b => b < W.heap.size) d v)
  | [], [], vs, ds, ps, hk, h, hv => by
    obtain ⟨rfl, rfl, rfl⟩ := trodAll_nil h
    exact ⟨(), trivial, rfl, rfl, fun j d hd => by simp [elts] at hd⟩
  | [], _ :: _, vs, ds, ps, hk, h, hv => by simp [okTys] at hk
  | _ :: _, [], vs, ds, ps, hk, h, hv => by simp [okTys] at hk
  | t :: ts, T :: Ts, vs, ds, ps, hk, h, hv => by
    simp only [okTys, Bool.and_eq_true] at hk
    obtain ⟨hk, _, _, hks⟩ := hk
    obtain ⟨v, vs', d, ds', p, q, rfl, rfl, rfl, h0, h1⟩ := trodAll_cons h
    obtain ⟨y, hy, hr⟩ := read_arg hk (hv 0 t v rfl rfl) h0
    obtain ⟨a, ha, hl, hls, hrs⟩ := read_all hks h1 fun j t v ht hj => hv (j + 1) t v ht hj
    cases Ts with
    | nil =>
      cases ts with
      | cons => simp [okTys] at hks
      | nil =>
        obtain ⟨rfl, rfl, rfl⟩ := trodAll_nil h1
        refine ⟨y, hy, rfl, rfl, fun j d hd => ?_⟩
        cases j with
        | zero => simp [elts] at hd; subst hd; exact ⟨v, rfl, hr⟩
        | succ j => simp [elts] at hd
    | cons T' Ts =>
      refine ⟨(y, a), ⟨hy, ha⟩, by simp [hl], by simp [elts, hls], fun j d hd => ?_⟩
      cases j with
      | zero => simp [elts] at hd; subst hd; exact ⟨v, rfl, hr⟩
      | succ j => simp only [elts, List.getElem?_cons_succ] at hd; exact hrs j d hd
theorem trod_back (hl : laidOutB P = true) {W' : World} (hb : Below W.heap.size W W') : ∀ {ts : List TypeId} {Ts : List Ty} {vs : List Value} {ds : List (DataW H)} {ps : List MemPlace}, okTys P ts Ts = true → DataW.TrodAll enc P W 0 (fun _ => true) true ts vs ds ps →
    DataW.TrodAll enc P W' 0 (fun b => decide (b < W.heap.size)) true ts vs ds ps
  | [], [], vs, ds, ps, hk, h => by
    obtain ⟨rfl, rfl, rfl⟩ := trodAll_nil h
    exact trodAll_mk0
  | [], _ :: _, vs, ds, ps, hk, h => by simp [okTys] at hk
  | _ :: _, [], vs, ds, ps, hk, h => by simp [okTys] at hk
  | t :: ts, T :: Ts, vs, ds, ps, hk, h => by
    simp only [okTys, Bool.and_eq_true, decide_eq_true_eq] at hk
    obtain ⟨hk, hrr, hsz, hks⟩ := hk
    obtain ⟨v, vs', d, ds', p, q, rfl, rfl, rfl, h0, h1⟩ := trodAll_cons h
    have lt : ∀ x ∈ p, x.block < W.heap.size := by
      obtain ⟨m, hm⟩ := h0
      exact DataW.trod_lt m _ _ _ hm
    exact trodAll_cons_mk (Below.trod hl hrr hsz h0 hb lt) (trod_back hl hb hks h1)
/-- a law's call -/
theorem law_call {G : Nat → Option (List D)} {fn : Func} {g : FuncId} {As : Shs} {F : Vals As.tys → Option Bool} {s : ChangeSpec} {tb : TypeId} (hl : laidOutB P = true)
    (hok : RowOK P G (fnRow g As [(false, .b)] F)) (hgl : Glob ⟨W, fun b => b < W.heap.size, fun _ => False, fun _ => 0, fun _ => 0, G⟩) (hty : okTys P fn.params.toList As.tys = true) (hdec : ∀ a : Vals As.tys, decArgs As (elts As.tys a) = some a)
    (hres : fn.resultTypes = #[tb]) (htb : P.underlying tb = some .bool) (hvars : s.vars = []) (hspec : ∀ ds : List (DataW H), ds.length = fn.params.toList.length → (s.fn H ds).results = [.lit (.bool true)] ∧ (s.fn H ds).args = ds ∧ (s.fn H ds).vars = [])
    (hlaw : ∀ a : Vals As.tys, FitAll As.tys a → F a = some true)
    {args : Array Value} {ds gs : List (DataW H)} {before : List MemPlace} (hval : ∀ (j : Nat) t v, fn.params[j]? = some t → args[j]? = some v → Value.okWide P W .any base t v)
    (hW : DataW.Whole enc P fn.params.toList s.vars false W args.toList ds gs before) :
    Calls P g args W fun e W' => ∃ v, e = .returned v ∧ s.post enc P fn false true false false W args v W' := by
  have hW' := hW
  obtain ⟨p, q, hA, hV, rfl, hfz, hnd⟩ := hW
  obtain ⟨a, ha, hdl, hvl, hr⟩ := read_all hty hA fun j t v ht hv => hval j t v (by rw [← Array.getElem?_toList]; exact ht) (by rw [← Array.getElem?_toList]; exact hv)
  rw [hvars] at hV
  obtain ⟨rfl, rfl⟩ := trodVars_none hV
  have call := (hok _ a true (hdec a) (hlaw a ha)).2
  refine (top_call (W := W) (vs := args) call hgl (by rw [← Array.length_toList]; exact hvl) (fun j d hd => ?_)).mono ?_
  · obtain ⟨v, hv, hrel⟩ := hr j d hd
    rw [Array.getElem?_toList] at hv
    rw [Array.getD_eq_getD_getElem?, hv]
    exact hrel
  · rintro e W' ⟨⟨v, I', rfl, hx⟩, bel⟩
    have hv : v = .bool true := by
      have hx' : RelX W' I' (fun _ => False) (.b true) v := hx
      cases hx'; rfl
    subst hv
    obtain ⟨s1, s2, s3⟩ := hspec (ds ++ []) (by rw [List.append_nil]; exact hdl)
    refine ⟨_, rfl, ds, [], p ++ [], [], p, [], hW', ?_, ?_, ?_, bel.frame _, fun h => by cases h⟩
    · rw [s1, hres]
      exact trodAll_mk1 (shut_bool htb _)
    · rw [s2, List.append_nil]
      exact trod_back hl bel hty hA
    · rw [s3, hvars]; rfl
end
end Go.Fw
end
section
/- Loops as rounds, texts and numbers: plain laws. By this session. -/
set_option linter.unusedVariables false
set_option linter.unusedSimpArgs false
namespace Go.Fw
theorem wrap_i64 {n : Int} (h1 : -9223372036854775808 ≤ n) (h2 : n ≤ 9223372036854775807) : IntKind.wrap .i64 n = n := by rw [IntKind.wrap_i64]; omega
theorem wrap_u64 (n : Int) : IntKind.wrap .u64 n = n % 18446744073709551616 := by
  show (if (false && decide (n % 18446744073709551616 ≥ 9223372036854775808)) = true then n % 18446744073709551616 - 18446744073709551616 else n % 18446744073709551616) = _
  simp
theorem wrap_u8 (n : Int) : IntKind.wrap .u8 n = n % 256 := by
  show (if (false && decide (n % 256 ≥ 128)) = true then n % 256 - 256 else n % 256) = _
  simp
theorem wrap_up {n : Nat} (h : n < 9223372036854775807) : IntKind.wrap .i64 ((n : Int) + 1) = ((n + 1 : Nat) : Int) := by rw [wrap_i64 (by omega) (by omega)]; omega
theorem bt_bound (s : ByteArray) (i : Nat) : 0 ≤ bt s i ∧ bt s i ≤ 255 := by
  unfold bt
  have := (s.data.toList.getD i 0).toNat_lt
  omega
section
variable {S R : Type} {t : S → Option (S ⊕ R)}
theorem rounds_end {s : S} {r : R} (h : t s = some (.inr r)) : rounds t s = some r := by rw [rounds_eq, h]
theorem rounds_next {s s' : S} (h : t s = some (.inl s')) : rounds t s = rounds t s' := by rw [rounds_eq, h]
theorem rounds_to (st : Nat → S) (n : Nat) (h : ∀ i, i < n → t (st i) = some (.inl (st (i + 1)))) : rounds t (st 0) = rounds t (st n) := by
  induction n with
  | zero => rfl
  | succ n ih => rw [ih fun i hi => h i (by omega), rounds_next (h n (by omega))]
/-- rounds that go on while it is so -/
theorem rounds_all (st : Nat → S) (p : Nat → Bool) (out fin : R) (n : Nat) (h : ∀ i, i < n → t (st i) = some (bif p i then .inl (st (i + 1)) else .inr out)) (hf : t (st n) = some (.inr fin)) :
    rounds t (st 0) = some (bif (List.range n).all p then fin else out) := by
  have go : ∀ k, k ≤ n → rounds t (st 0) = bif (List.range k).all p then rounds t (st k) else some out := by
    intro k
    induction k with
    | zero => intro _; rfl
    | succ k ih =>
      intro hk
      rw [ih (by omega), List.range_succ, List.all_append]
      cases (List.range k).all p with
      | false => rfl
      | true =>
        have h1 := h k (by omega)
        cases hp : p k with
        | false => rw [hp] at h1; simp [hp, rounds_end h1]
        | true => rw [hp] at h1; simp [hp, rounds_next h1]
  rw [go n (Nat.le_refl _), rounds_end hf]
  cases (List.range n).all p <;> rfl
end
/-- sums of so many -/
def sumTo (f : Nat → Int) : Nat → Int
  | 0 => 0
  | n + 1 => sumTo f n + f n
theorem sumTo_back (f : Nat → Int) : ∀ n, sumTo (fun j => f (n - 1 - j)) n = sumTo f n := by
  have first : ∀ (g : Nat → Int) (n : Nat), sumTo g (n + 1) = g 0 + sumTo (fun j => g (j + 1)) n := by
    intro g n
    induction n with
    | zero => simp [sumTo]
    | succ n ih => rw [sumTo, ih, sumTo]; omega
  have same : ∀ (g h : Nat → Int) (n : Nat), (∀ j, j < n → g j = h j) → sumTo g n = sumTo h n := by
    intro g h n
    induction n with
    | zero => intro _; rfl
    | succ n ih => intro hh; rw [sumTo, sumTo, ih fun j hj => hh j (by omega), hh n (by omega)]
  intro n
  induction n with
  | zero => rfl
  | succ n ih =>
    rw [first, sumTo, ← ih, same (fun j => f (n + 1 - 1 - (j + 1))) (fun j => f (n - 1 - j)) n fun j hj => by
      have : n + 1 - 1 - (j + 1) = n - 1 - j := by omega
      simp only [this]]
    simp only [Nat.add_sub_cancel, Nat.sub_zero]
    omega
theorem sumTo_bound {f : Nat → Int} {b : Int} : ∀ {n : Nat}, (∀ j, j < n → 0 ≤ f j ∧ f j ≤ b) → 0 ≤ sumTo f n ∧ sumTo f n ≤ b * n
  | 0, _ => by simp [sumTo]
  | n + 1, h => by
    have ih := sumTo_bound (f := f) (b := b) (n := n) fun j hj => h j (by omega)
    have := h n (by omega)
    have e : b * ((n + 1 : Nat) : Int) = b * n + b := by rw [Int.natCast_add, Int.mul_add]; simp
    rw [sumTo, e]
    omega
theorem sumTo_same {g h : Nat → Int} : ∀ {n : Nat}, (∀ j, j < n → g j = h j) → sumTo g n = sumTo h n
  | 0, _ => rfl
  | n + 1, hh => by rw [sumTo, sumTo, sumTo_same fun j hj => hh j (by omega), hh n (by omega)]
/-! ### lists -/
theorem getD_at {α : Type} {l : List α} {i : Nat} {d : α} (h : i < l.length) : l.getD i d = l[i] := by simp [List.getD_eq_getElem?_getD, List.getElem?_eq_getElem h]
theorem take_up {α : Type} {l : List α} {i : Nat} (d : α) (h : i < l.length) : l.take (i + 1) = l.take i ++ [l.getD i d] := by
  rw [List.take_succ_eq_append_getElem h, getD_at h]
theorem range_all {α : Type} (p : α → Bool) (d : α) (l : List α) : ((List.range l.length).all fun i => p (l.getD i d)) = l.all p := by
  rw [Bool.eq_iff_iff, List.all_eq_true, List.all_eq_true]
  constructor
  · intro h x hx
    obtain ⟨i, hi, rfl⟩ := List.getElem_of_mem hx
    have := h i (List.mem_range.2 hi)
    rwa [getD_at hi] at this
  · intro h i hi
    have hi := List.mem_range.1 hi
    rw [getD_at hi]
    exact h _ (List.getElem_mem hi)
/-- is there room for one more? -/
theorem room {n m : Nat} (w k : Nat) (h : n ≤ m) (hw : (m + 1) * w ≤ k) : Nat.ble ((n + 1) * w) k = true := Nat.ble_eq_true_of_le (Nat.le_trans (Nat.mul_le_mul_right w (by omega)) hw)
/-- an amount -/
def Am (a : Int) : Prop := -9223372036854775808 ≤ a ∧ a ≤ 9223372036854775807
end Go.Fw
end
section
/- The program of this seat, the types of its data, and its functions without a body. By this session. -/
set_option linter.unusedVariables false
set_option linter.unusedSimpArgs false
namespace Go.Proofs.YtnnebljljmpdkaaDoor
open Go Go.Fw
noncomputable abbrev P := Tryd.prog
theorem pick_le {n : Nat} {cs : List D} {A B : Nat → Option (List D)} (h : ∀ g c, A g = some c → B g = some c) : ∀ g c, (bif g == n then some cs else A g) = some c → (bif g == n then some cs else B g) = some c := by
  intro g c
  cases (g == n)
  · exact h g c
  · exact fun h => h
abbrev G0 : Nat → Option (List D) := fun g => bif g == 3 then some [.i .u64 1, .i .u64 10, .i .u64 100, .i .u64 1000, .i .u64 10000, .i .u64 100000, .i .u64 1000000, .i .u64 10000000, .i .u64 100000000, .i .u64 1000000000, .i .u64 10000000000, .i .u64 100000000000, .i .u64 1000000000000, .i .u64 10000000000000, .i .u64 100000000000000, .i .u64 1000000000000000, .i .u64 10000000000000000, .i .u64 100000000000000000, .i .u64 1000000000000000000, .i .u64 10000000000000000000] else none
abbrev G1 : Nat → Option (List D) := fun g => bif g == 3 then some [.i .u64 1, .i .u64 10, .i .u64 100, .i .u64 1000, .i .u64 10000, .i .u64 100000, .i .u64 1000000, .i .u64 10000000, .i .u64 100000000, .i .u64 1000000000, .i .u64 10000000000, .i .u64 100000000000, .i .u64 1000000000000, .i .u64 10000000000000, .i .u64 100000000000000, .i .u64 1000000000000000, .i .u64 10000000000000000, .i .u64 100000000000000000, .i .u64 1000000000000000000, .i .u64 10000000000000000000] else bif g == 0 then some [.er true] else bif g == 1 then some [.er true] else none
abbrev G2 : Nat → Option (List D) := fun g => bif g == 3 then some [.i .u64 1, .i .u64 10, .i .u64 100, .i .u64 1000, .i .u64 10000, .i .u64 100000, .i .u64 1000000, .i .u64 10000000, .i .u64 100000000, .i .u64 1000000000, .i .u64 10000000000, .i .u64 100000000000, .i .u64 1000000000000, .i .u64 10000000000000, .i .u64 100000000000000, .i .u64 1000000000000000, .i .u64 10000000000000000, .i .u64 100000000000000000, .i .u64 1000000000000000000, .i .u64 10000000000000000000] else bif g == 0 then some [.er true] else bif g == 1 then some [.er true] else bif g == 5 then some [.i .u8 128, .i .u8 191, .i .u8 160, .i .u8 191, .i .u8 128, .i .u8 159, .i .u8 144, .i .u8 191, .i .u8 128, .i .u8 143, .i .u8 0, .i .u8 0, .i .u8 0, .i .u8 0, .i .u8 0, .i .u8 0, .i .u8 0, .i .u8 0, .i .u8 0, .i .u8 0, .i .u8 0, .i .u8 0, .i .u8 0, .i .u8 0, .i .u8 0, .i .u8 0, .i .u8 0, .i .u8 0, .i .u8 0, .i .u8 0, .i .u8 0, .i .u8 0] else none
theorem g01 : ∀ g cs, G0 g = some cs → G1 g = some cs := pick_le (fun _ _ h => by cases h)
theorem g02 : ∀ g cs, G0 g = some cs → G2 g = some cs := pick_le (fun _ _ h => by cases h)
theorem g12 : ∀ g cs, G1 g = some cs → G2 g = some cs := pick_le (pick_le (pick_le (fun _ _ h => by cases h)))
abbrev T_api_Account : Ty := (.g (.p (.i .i64) .s))
abbrev T_utf8_acceptRange : Ty := (.g (.p (.i .u8) (.i .u8)))
abbrev T_api_Line : Ty := (.g (.p T_api_Account (.i .i64)))
abbrev T_api_Entry : Ty := (.g (.p (.i .i64) (.p .s (.l T_api_Line))))
abbrev T_bursarlaw12_Moved : Ty := (.g (.p (.i .i64) (.p .s (.p T_api_Account (.p T_api_Account (.i .i64))))))
def add64 : List D → Option (Bool × D) := fun ds => match ds with
  | [.i .u64 x, .i .u64 y, .i .u64 c] => some (decide (0 ≤ x) && decide (0 ≤ y) && decide (0 ≤ c) && decide (c ≤ 1), .tp [.i .u64 ((x + y + c) % 18446744073709551616), .i .u64 ((x + y + c) / 18446744073709551616)])
  | _ => none
theorem add64_ok : ExtOK P 58 (bare add64) := by
  intro ds r h w I vs hsz hv
  unfold bare add64 at h
  split at h
  · rename_i b q hq
    obtain ⟨hb, h⟩ := cond_some h
    injection h with h
    subst h
    split at hq
    · rename_i x y c
      injection hq with hq
      injection hq with hq1 hq2
      subst hq2
      rw [hb] at hq1
      simp only [Bool.and_eq_true, decide_eq_true_eq] at hq1
      have e0 := hv 0 _ rfl
      have e1 := hv 1 _ rfl
      have e2 := hv 2 _ rfl
      have hvs : vs = #[.int .u64 x, .int .u64 y, .int .u64 c] := by
        have : vs = #[vs.getD 0 undef, vs.getD 1 undef, vs.getD 2 undef] := by
          apply Array.ext
          · simpa using hsz
          · intro i hi hi'
            simp at hi'
            have : i = 0 ∨ i = 1 ∨ i = 2 := by omega
            rcases this with rfl | rfl | rfl <;> simp [Array.getD_eq_getD_getElem?, Array.getElem?_eq_getElem hi]
        rw [this]
        generalize vs.getD 0 undef = a0 at e0
        generalize vs.getD 1 undef = a1 at e1
        generalize vs.getD 2 undef = a2 at e2
        cases e0; cases e1; cases e2
        rfl
      refine ⟨_, by rw [hvs, run_callFunc_extern Tryd.func58 (by kernel_rfl) (by kernel_rfl) (by kernel_rfl) (e := add64Entry) (by kernel_rfl), run_add64 x y c (by omega) (by omega) (by omega) (by omega)]; rfl, ?_⟩
      refine .tp _ _ rfl fun j d hj => ?_
      match j, hj with
      | 0, hj => simp at hj; subst hj; exact .i _ _
      | 1, hj => simp at hj; subst hj; exact .i _ _
      | j + 2, hj => simp at hj
    · cases hq
  · cases h
def cntB : List D → Option (Bool × D) := fun ds => match ds with
  | [.s x, .i .u8 y] => some (true, .i .i64 (((Lib.countByte x.data.toList y.toNat.toUInt8 : Nat) : Int)))
  | _ => none
theorem cntB_ok : ExtOK P 89 (bare cntB) := by
  intro ds r h w I vs hsz hv
  unfold bare cntB at h
  split at h
  · rename_i b q hq
    obtain ⟨hb, h⟩ := cond_some h
    injection h with h
    subst h
    split at hq
    · rename_i x y
      injection hq with hq
      injection hq with hq1 hq2
      subst hq2
      have e0 := hv 0 _ rfl
      have e1 := hv 1 _ rfl
      have hvs : vs = #[vs.getD 0 undef, vs.getD 1 undef] := by
        apply Array.ext
        · simpa using hsz
        · intro i hi hi'
          simp at hi'
          have : i = 0 ∨ i = 1 := by omega
          rcases this with rfl | rfl <;> simp [Array.getD_eq_getD_getElem?, Array.getElem?_eq_getElem hi]
      generalize vs.getD 0 undef = a0 at e0 hvs
      generalize vs.getD 1 undef = a1 at e1 hvs
      cases e0; cases e1
      refine ⟨_, by rw [hvs, run_callFunc_extern Tryd.func89 (by kernel_rfl) (by kernel_rfl) (by kernel_rfl) (e := Extern.BytealgCount.count) (by kernel_rfl), Lib.run_countString]; rfl, ?_⟩
      exact .i _ _
    · cases hq
  · cases h
def idxB : List D → Option (Bool × D) := fun ds => match ds with
  | [.s x, .i .u8 y] => some (true, .i .i64 (Lib.indexByte x.data.toList y.toNat.toUInt8))
  | _ => none
theorem idxB_ok : ExtOK P 105 (bare idxB) := by
  intro ds r h w I vs hsz hv
  unfold bare idxB at h
  split at h
  · rename_i b q hq
    obtain ⟨hb, h⟩ := cond_some h
    injection h with h
    subst h
    split at hq
    · rename_i x y
      injection hq with hq
      injection hq with hq1 hq2
      subst hq2
      have e0 := hv 0 _ rfl
      have e1 := hv 1 _ rfl
      have hvs : vs = #[vs.getD 0 undef, vs.getD 1 undef] := by
        apply Array.ext
        · simpa using hsz
        · intro i hi hi'
          simp at hi'
          have : i = 0 ∨ i = 1 := by omega
          rcases this with rfl | rfl <;> simp [Array.getD_eq_getD_getElem?, Array.getElem?_eq_getElem hi]
      generalize vs.getD 0 undef = a0 at e0 hvs
      generalize vs.getD 1 undef = a1 at e1 hvs
      cases e0; cases e1
      refine ⟨_, by rw [hvs, run_callFunc_extern Tryd.func105 (by kernel_rfl) (by kernel_rfl) (by kernel_rfl) (e := Extern.BytealgIndexByte.indexByte) (by kernel_rfl), Lib.run_indexByteString]; rfl, ?_⟩
      exact .i _ _
    · cases hq
  · cases h
abbrev E0 : FuncId → Option (List D → Option (Bool × D)) := fun g => bif g == 58 then some add64 else bif g == 89 then some cntB else bif g == 105 then some idxB else none
theorem e0_ok : ∀ g f, E0 g = some f → ExtOK P g (bare f) := by
  intro g f h
  unfold E0 at h
  cases hg58 : (g == 58) with
  | true =>
    rw [hg58] at h
    injection h with h
    subst h
    have : g = 58 := by simpa using hg58
    subst this
    exact add64_ok
  | false =>
  rw [hg58] at h
  simp only [cond_false] at h
  cases hg89 : (g == 89) with
  | true =>
    rw [hg89] at h
    injection h with h
    subst h
    have : g = 89 := by simpa using hg89
    subst this
    exact cntB_ok
  | false =>
  rw [hg89] at h
  simp only [cond_false] at h
  cases hg105 : (g == 105) with
  | true =>
    rw [hg105] at h
    injection h with h
    subst h
    have : g = 105 := by simpa using hg105
    subst this
    exact idxB_ok
  | false =>
  rw [hg105] at h
  simp only [cond_false] at h
  cases h
abbrev J0 : FuncId → Option TypeId := fun g => none
theorem j0_ok : InsAll P J0 := by
  intro g e h
  unfold J0 at h
  cases h
end Go.Proofs.YtnnebljljmpdkaaDoor
end
section
/- The Go function digit.All, as a Lean function, and that it is this one. Written by a program of this session. -/
set_option linter.unusedVariables false
set_option maxRecDepth 100000
namespace Go.Proofs.YtnnebljljmpdkaaDoor
open Go Go.Fw
abbrev digit_All.As : Shs := (.cons (.x .s) .nil)
abbrev digit_All.m : Back := [(false, .b)]
noncomputable abbrev digit_All.H : HK := hk P G0 E0 J0 [] noLoops 4
theorem digit_All.rows : TabOK P G0 (tabF []) := rows_ok (ws := []) trivial
theorem digit_All.hok : HKOK P digit_All.H := hk_ok e0_ok j0_ok digit_All.rows (fun g n => noLoops_ok g n) 4
noncomputable abbrev digit_All.sh3 : SSh := ⟨[(0, (.x .s)), (5, (.x (.i .i64))), (6, (.x (.i .i64)))], []⟩
noncomputable abbrev digit_All.os3 : PEnds := [(.ret, ⟨[(2, (.x .b))], []⟩), ((.exit 0), ⟨[], []⟩)]
noncomputable def digit_All.t3 (s : (ByteArray × (Int × Int))) : Option ((ByteArray × (Int × Int)) ⊕ (Bool ⊕ Unit)) := (bif (decide ((s.2.2 < s.2.1))) then (bif ((decide (((0 : Int) ≤ s.2.2))) && (decide ((s.2.2 < (s.1.size : Int))))) then (bif (decide (((bt s.1 (Int.toNat s.2.2)) < (48 : Int)))) then (some (.inr (.inl false))) else (bif ((decide (((0 : Int) ≤ s.2.2))) && (decide ((s.2.2 < (s.1.size : Int))))) then (bif (decide (((bt s.1 (Int.toNat s.2.2)) > (57 : Int)))) then (some (.inr (.inl false))) else (some (.inl (s.1, (s.2.1, (IntKind.wrap .i64 (s.2.2 + (1 : Int)))))))) else none)) else none) else (some (.inr (.inr ()))))
theorem digit_All.t3_ok : ∀ s : Vals digit_All.sh3.tys, turnK P digit_All.H (lp []) (bodyAt (codeOf P 54) 3) 0 digit_All.sh3 digit_All.os3 s some = digit_All.t3 s := fun s => by kernel_rfl
noncomputable def digit_All.l3 : (ByteArray × (Int × Int)) → Option (Bool ⊕ Unit) := rounds digit_All.t3
noncomputable def digit_All.f (a : ByteArray) : Option Bool := (((digit_All.l3 (a, ((a.size : Int), (0 : Int))))).bind fun (x1 : (Bool ⊕ PUnit)) => (match x1 with | .inl x2 => (some x2) | .inr x2 => (some true)))
theorem digit_All.ok : ∀ a : Vals digit_All.As.tys, fnK P digit_All.H (lp [(3, (NodeT.summ ⟨digit_All.sh3, digit_All.os3, digit_All.l3⟩ 0))]) 54 digit_All.As digit_All.m a some = digit_All.f a := fun a => by kernel_rfl
noncomputable abbrev digit_All.row : Row := fnRow 54 digit_All.As digit_All.m digit_All.f
theorem digit_All.row_ok : RowOK P G0 digit_All.row := row_told digit_All.hok (lp_of (l := [(3, (NodeT.summ ⟨digit_All.sh3, digit_All.os3, digit_All.l3⟩ 0))]) ⟨(loop_sum digit_All.hok (by kernel_rfl) (by kernel_rfl) (l := []) trivial digit_All.sh3 digit_All.os3 (by kernel_rfl) digit_All.t3 digit_All.t3_ok), trivial⟩) (fun _ => rfl) digit_All.ok
end Go.Proofs.YtnnebljljmpdkaaDoor
end
section
/- The Go function digit.sum, as a Lean function, and that it is this one. Written by a program of this session. -/
set_option linter.unusedVariables false
set_option maxRecDepth 100000
namespace Go.Proofs.YtnnebljljmpdkaaDoor
open Go Go.Fw
abbrev digit_sum.As : Shs := (.cons (.x .s) .nil)
abbrev digit_sum.m : Back := [(false, (.i .i64))]
noncomputable abbrev digit_sum.H : HK := hk P G0 E0 J0 [] noLoops 4
theorem digit_sum.rows : TabOK P G0 (tabF []) := rows_ok (ws := []) trivial
theorem digit_sum.hok : HKOK P digit_sum.H := hk_ok e0_ok j0_ok digit_sum.rows (fun g n => noLoops_ok g n) 4
noncomputable abbrev digit_sum.sh5 : SSh := ⟨[(0, (.x .s)), (3, (.fn 85 .nil)), (4, (.x (.i .i64))), (8, (.x (.i .i64))), (9, (.x (.i .i64)))], []⟩
noncomputable abbrev digit_sum.os5 : PEnds := [((.exit 0), ⟨[(4, (.x (.i .i64)))], []⟩)]
noncomputable def digit_sum.t5 (s : (ByteArray × (Int × (Int × Int)))) : Option ((ByteArray × (Int × (Int × Int))) ⊕ (Int)) := (bif (decide ((s.2.2.2 < s.2.2.1))) then (bif ((decide (((0 : Int) ≤ (IntKind.wrap .i64 ((IntKind.wrap .i64 ((s.1.size : Int) - (1 : Int))) - s.2.2.2))))) && (decide (((IntKind.wrap .i64 ((IntKind.wrap .i64 ((s.1.size : Int) - (1 : Int))) - s.2.2.2)) < (s.1.size : Int))))) then (bif ((Int.tmod s.2.2.2 (2 : Int)) == (1 : Int)) then (some (.inl (s.1, ((IntKind.wrap .i64 (s.2.1 + (IntKind.wrap .i64 ((IntKind.wrap .i64 ((2 : Int) * (IntKind.wrap .i64 (IntKind.wrap .u8 ((bt s.1 (Int.toNat (IntKind.wrap .i64 ((IntKind.wrap .i64 ((s.1.size : Int) - (1 : Int))) - s.2.2.2)))) - (48 : Int)))))) - (IntKind.wrap .i64 ((9 : Int) * (IntKind.wrap .i64 (Int.tdiv (IntKind.wrap .i64 (IntKind.wrap .u8 ((bt s.1 (Int.toNat (IntKind.wrap .i64 ((IntKind.wrap .i64 ((s.1.size : Int) - (1 : Int))) - s.2.2.2)))) - (48 : Int)))) (5 : Int))))))))), (s.2.2.1, (IntKind.wrap .i64 (s.2.2.2 + (1 : Int)))))))) else (some (.inl (s.1, ((IntKind.wrap .i64 (s.2.1 + (IntKind.wrap .i64 (IntKind.wrap .u8 ((bt s.1 (Int.toNat (IntKind.wrap .i64 ((IntKind.wrap .i64 ((s.1.size : Int) - (1 : Int))) - s.2.2.2)))) - (48 : Int)))))), (s.2.2.1, (IntKind.wrap .i64 (s.2.2.2 + (1 : Int))))))))) else none) else (some (.inr s.2.1)))
theorem digit_sum.t5_ok : ∀ s : Vals digit_sum.sh5.tys, turnK P digit_sum.H (lp []) (bodyAt (codeOf P 68) 5) 0 digit_sum.sh5 digit_sum.os5 s some = digit_sum.t5 s := fun s => by kernel_rfl
noncomputable def digit_sum.l5 : (ByteArray × (Int × (Int × Int))) → Option (Int) := rounds digit_sum.t5
noncomputable def digit_sum.f (a : ByteArray) : Option Int := (((digit_sum.l5 (a, ((0 : Int), ((a.size : Int), (0 : Int)))))).bind fun (x1 : Int) => (some x1))
theorem digit_sum.ok : ∀ a : Vals digit_sum.As.tys, fnK P digit_sum.H (lp [(5, (NodeT.summ ⟨digit_sum.sh5, digit_sum.os5, digit_sum.l5⟩ 0))]) 68 digit_sum.As digit_sum.m a some = digit_sum.f a := fun a => by kernel_rfl
noncomputable abbrev digit_sum.row : Row := fnRow 68 digit_sum.As digit_sum.m digit_sum.f
theorem digit_sum.row_ok : RowOK P G0 digit_sum.row := row_told digit_sum.hok (lp_of (l := [(5, (NodeT.summ ⟨digit_sum.sh5, digit_sum.os5, digit_sum.l5⟩ 0))]) ⟨(loop_sum digit_sum.hok (by kernel_rfl) (by kernel_rfl) (l := []) trivial digit_sum.sh5 digit_sum.os5 (by kernel_rfl) digit_sum.t5 digit_sum.t5_ok), trivial⟩) (fun _ => rfl) digit_sum.ok
end Go.Proofs.YtnnebljljmpdkaaDoor
end
section
/- The Go function digit.Sound, as a Lean function, and that it is this one. Written by a program of this session. -/
set_option linter.unusedVariables false
set_option maxRecDepth 100000
namespace Go.Proofs.YtnnebljljmpdkaaDoor
open Go Go.Fw
abbrev digit_Sound.As : Shs := (.cons (.x .s) .nil)
abbrev digit_Sound.m : Back := [(false, .b)]
noncomputable abbrev digit_Sound.H : HK := hk P G0 E0 J0 [digit_All.row, digit_sum.row] noLoops 4
theorem digit_Sound.rows : TabOK P G0 (tabF [digit_All.row, digit_sum.row]) := rows_ok (ws := [digit_All.row, digit_sum.row]) ⟨digit_All.row_ok, ⟨digit_sum.row_ok, trivial⟩⟩
theorem digit_Sound.hok : HKOK P digit_Sound.H := hk_ok e0_ok j0_ok digit_Sound.rows (fun g n => noLoops_ok g n) 4
noncomputable def digit_Sound.f (a : ByteArray) : Option Bool := (bif (decide (((a.size : Int) ≥ (2 : Int)))) then (((digit_All.f a)).bind fun (x1 : Bool) => (bif x1 then (((digit_sum.f a)).bind fun (x2 : Int) => (some ((Int.tmod x2 (10 : Int)) == (0 : Int)))) else (some false))) else (some false))
theorem digit_Sound.ok : ∀ a : Vals digit_Sound.As.tys, fnK P digit_Sound.H (lp []) 53 digit_Sound.As digit_Sound.m a some = digit_Sound.f a := fun a => by kernel_rfl
noncomputable abbrev digit_Sound.row : Row := fnRow 53 digit_Sound.As digit_Sound.m digit_Sound.f
theorem digit_Sound.row_ok : RowOK P G0 digit_Sound.row := row_told digit_Sound.hok (lp_of (l := []) trivial) (fun _ => rfl) digit_Sound.ok
end Go.Proofs.YtnnebljljmpdkaaDoor
end
section
/- The Go function bursarref02.All, as a Lean function, and that it is this one. Written by a program of this session. -/
set_option linter.unusedVariables false
set_option maxRecDepth 100000
namespace Go.Proofs.YtnnebljljmpdkaaDoor
open Go Go.Fw
abbrev bursarref02_All.As : Shs := (.cons (.x .s) .nil)
abbrev bursarref02_All.m : Back := [(false, .b)]
noncomputable abbrev bursarref02_All.H : HK := hk P G0 E0 J0 [] noLoops 4
theorem bursarref02_All.rows : TabOK P G0 (tabF []) := rows_ok (ws := []) trivial
theorem bursarref02_All.hok : HKOK P bursarref02_All.H := hk_ok e0_ok j0_ok bursarref02_All.rows (fun g n => noLoops_ok g n) 4
noncomputable abbrev bursarref02_All.sh3 : SSh := ⟨[(0, (.x .s)), (3, (.x (.i .i64)))], []⟩
noncomputable abbrev bursarref02_All.os3 : PEnds := [(.ret, ⟨[(2, (.x .b))], []⟩), ((.exit 0), ⟨[], []⟩)]
noncomputable def bursarref02_All.t3 (s : (ByteArray × Int)) : Option ((ByteArray × Int) ⊕ (Bool ⊕ Unit)) := (bif (decide ((s.2 < (s.1.size : Int)))) then (bif ((decide (((0 : Int) ≤ s.2))) && (decide ((s.2 < (s.1.size : Int))))) then (bif (decide (((bt s.1 (Int.toNat s.2)) < (48 : Int)))) then (some (.inr (.inl false))) else (bif ((decide (((0 : Int) ≤ s.2))) && (decide ((s.2 < (s.1.size : Int))))) then (bif (decide (((bt s.1 (Int.toNat s.2)) > (57 : Int)))) then (some (.inr (.inl false))) else (some (.inl (s.1, (IntKind.wrap .i64 (s.2 + (1 : Int))))))) else none)) else none) else (some (.inr (.inr ()))))
theorem bursarref02_All.t3_ok : ∀ s : Vals bursarref02_All.sh3.tys, turnK P bursarref02_All.H (lp []) (bodyAt (codeOf P 48) 3) 0 bursarref02_All.sh3 bursarref02_All.os3 s some = bursarref02_All.t3 s := fun s => by kernel_rfl
noncomputable def bursarref02_All.l3 : (ByteArray × Int) → Option (Bool ⊕ Unit) := rounds bursarref02_All.t3
noncomputable def bursarref02_All.f (a : ByteArray) : Option Bool := (((bursarref02_All.l3 (a, (0 : Int)))).bind fun (x1 : (Bool ⊕ PUnit)) => (match x1 with | .inl x2 => (some x2) | .inr x2 => (some true)))
theorem bursarref02_All.ok : ∀ a : Vals bursarref02_All.As.tys, fnK P bursarref02_All.H (lp [(3, (NodeT.summ ⟨bursarref02_All.sh3, bursarref02_All.os3, bursarref02_All.l3⟩ 0))]) 48 bursarref02_All.As bursarref02_All.m a some = bursarref02_All.f a := fun a => by kernel_rfl
noncomputable abbrev bursarref02_All.row : Row := fnRow 48 bursarref02_All.As bursarref02_All.m bursarref02_All.f
theorem bursarref02_All.row_ok : RowOK P G0 bursarref02_All.row := row_told bursarref02_All.hok (lp_of (l := [(3, (NodeT.summ ⟨bursarref02_All.sh3, bursarref02_All.os3, bursarref02_All.l3⟩ 0))]) ⟨(loop_sum bursarref02_All.hok (by kernel_rfl) (by kernel_rfl) (l := []) trivial bursarref02_All.sh3 bursarref02_All.os3 (by kernel_rfl) bursarref02_All.t3 bursarref02_All.t3_ok), trivial⟩) (fun _ => rfl) bursarref02_All.ok
end Go.Proofs.YtnnebljljmpdkaaDoor
end
section
/- The Go function bursarref02.Sound, as a Lean function, and that it is this one. Written by a program of this session. -/
set_option linter.unusedVariables false
set_option maxRecDepth 100000
namespace Go.Proofs.YtnnebljljmpdkaaDoor
open Go Go.Fw
abbrev bursarref02_Sound.As : Shs := (.cons (.x .s) .nil)
abbrev bursarref02_Sound.m : Back := [(false, .b)]
noncomputable abbrev bursarref02_Sound.H : HK := hk P G0 E0 J0 [bursarref02_All.row] noLoops 4
theorem bursarref02_Sound.rows : TabOK P G0 (tabF [bursarref02_All.row]) := rows_ok (ws := [bursarref02_All.row]) ⟨bursarref02_All.row_ok, trivial⟩
theorem bursarref02_Sound.hok : HKOK P bursarref02_Sound.H := hk_ok e0_ok j0_ok bursarref02_Sound.rows (fun g n => noLoops_ok g n) 4
noncomputable abbrev bursarref02_Sound.sh7 : SSh := ⟨[(0, (.x .s)), (3, (.x (.i .i64))), (4, (.x (.i .i64)))], []⟩
noncomputable abbrev bursarref02_Sound.os7 : PEnds := [((.exit 0), ⟨[(3, (.x (.i .i64)))], []⟩)]
noncomputable def bursarref02_Sound.t7 (s : (ByteArray × (Int × Int))) : Option ((ByteArray × (Int × Int)) ⊕ (Int)) := (bif (decide ((s.2.2 < (s.1.size : Int)))) then (bif ((decide (((0 : Int) ≤ s.2.2))) && (decide ((s.2.2 < (s.1.size : Int))))) then (bif ((Int.tmod (IntKind.wrap .i64 ((s.1.size : Int) - s.2.2)) (2 : Int)) == (0 : Int)) then (bif (decide (((IntKind.wrap .i64 ((2 : Int) * (IntKind.wrap .i64 ((IntKind.wrap .i64 (bt s.1 (Int.toNat s.2.2))) - (48 : Int))))) > (9 : Int)))) then (some (.inl (s.1, ((IntKind.wrap .i64 (s.2.1 + (IntKind.wrap .i64 ((IntKind.wrap .i64 ((2 : Int) * (IntKind.wrap .i64 ((IntKind.wrap .i64 (bt s.1 (Int.toNat s.2.2))) - (48 : Int))))) - (9 : Int))))), (IntKind.wrap .i64 (s.2.2 + (1 : Int))))))) else (some (.inl (s.1, ((IntKind.wrap .i64 (s.2.1 + (IntKind.wrap .i64 ((2 : Int) * (IntKind.wrap .i64 ((IntKind.wrap .i64 (bt s.1 (Int.toNat s.2.2))) - (48 : Int))))))), (IntKind.wrap .i64 (s.2.2 + (1 : Int)))))))) else (some (.inl (s.1, ((IntKind.wrap .i64 (s.2.1 + (IntKind.wrap .i64 ((IntKind.wrap .i64 (bt s.1 (Int.toNat s.2.2))) - (48 : Int))))), (IntKind.wrap .i64 (s.2.2 + (1 : Int)))))))) else none) else (some (.inr s.2.1)))
theorem bursarref02_Sound.t7_ok : ∀ s : Vals bursarref02_Sound.sh7.tys, turnK P bursarref02_Sound.H (lp []) (bodyAt (codeOf P 47) 7) 0 bursarref02_Sound.sh7 bursarref02_Sound.os7 s some = bursarref02_Sound.t7 s := fun s => by kernel_rfl
noncomputable def bursarref02_Sound.l7 : (ByteArray × (Int × Int)) → Option (Int) := rounds bursarref02_Sound.t7
noncomputable def bursarref02_Sound.f (a : ByteArray) : Option Bool := (bif (decide (((a.size : Int) < (2 : Int)))) then (some false) else (((bursarref02_All.f a)).bind fun (x1 : Bool) => (bif (!x1) then (some false) else (((bursarref02_Sound.l7 (a, ((0 : Int), (0 : Int))))).bind fun (x2 : Int) => (some ((Int.tmod x2 (10 : Int)) == (0 : Int)))))))
theorem bursarref02_Sound.ok : ∀ a : Vals bursarref02_Sound.As.tys, fnK P bursarref02_Sound.H (lp [(7, (NodeT.summ ⟨bursarref02_Sound.sh7, bursarref02_Sound.os7, bursarref02_Sound.l7⟩ 0))]) 47 bursarref02_Sound.As bursarref02_Sound.m a some = bursarref02_Sound.f a := fun a => by kernel_rfl
noncomputable abbrev bursarref02_Sound.row : Row := fnRow 47 bursarref02_Sound.As bursarref02_Sound.m bursarref02_Sound.f
theorem bursarref02_Sound.row_ok : RowOK P G0 bursarref02_Sound.row := row_told bursarref02_Sound.hok (lp_of (l := [(7, (NodeT.summ ⟨bursarref02_Sound.sh7, bursarref02_Sound.os7, bursarref02_Sound.l7⟩ 0))]) ⟨(loop_sum bursarref02_Sound.hok (by kernel_rfl) (by kernel_rfl) (l := []) trivial bursarref02_Sound.sh7 bursarref02_Sound.os7 (by kernel_rfl) bursarref02_Sound.t7 bursarref02_Sound.t7_ok), trivial⟩) (fun _ => rfl) bursarref02_Sound.ok
end Go.Proofs.YtnnebljljmpdkaaDoor
end
section
/- Digits: what the code and the document's answer compute. By this session. -/
set_option linter.unusedVariables false
set_option linter.unusedSimpArgs false
namespace Go.Proofs.YtnnebljljmpdkaaDoor
open Go Go.Fw
def digC (s : ByteArray) (i : Nat) : Bool := decide (48 ≤ bt s i) && decide (bt s i ≤ 57)
def digitsB (s : ByteArray) : Bool := (List.range s.size).all (digC s)
theorem digit_All_is (s : ByteArray) (hs : s.size ≤ 4611686018427387904) : digit_All.f s = some (digitsB s) := by
  have h := rounds_all (t := digit_All.t3) (fun i => (s, ((s.size : Int), (i : Int)))) (digC s) (.inl false) (.inr ()) s.size (fun i hi => by
    have := bt_bound s i
    have := wrap_up (n := i) (by omega)
    grind [digit_All.t3, digC]) (by simp [digit_All.t3])
  unfold digit_All.f digit_All.l3
  rw [show ((0 : Int)) = ((0 : Nat) : Int) from rfl, h]
  unfold digitsB
  cases (List.range s.size).all (digC s) <;> rfl
theorem ref_All_is (s : ByteArray) (hs : s.size ≤ 4611686018427387904) : bursarref02_All.f s = some (digitsB s) := by
  have h := rounds_all (t := bursarref02_All.t3) (fun i => (s, (i : Int))) (digC s) (.inl false) (.inr ()) s.size (fun i hi => by
    have := bt_bound s i
    have := wrap_up (n := i) (by omega)
    grind [bursarref02_All.t3, digC]) (by simp [bursarref02_All.t3])
  unfold bursarref02_All.f bursarref02_All.l3
  rw [show ((0 : Int)) = ((0 : Nat) : Int) from rfl, h]
  unfold digitsB
  cases (List.range s.size).all (digC s) <;> rfl
theorem digits_at {s : ByteArray} (h : digitsB s = true) {i : Nat} (hi : i < s.size) : 48 ≤ bt s i ∧ bt s i ≤ 57 := by
  unfold digitsB at h
  rw [List.all_eq_true] at h
  simpa [digC] using h i (List.mem_range.2 hi)
/-- what a digit counts, from the left -/
def term (s : ByteArray) (j : Nat) : Int := bif (s.size - j) % 2 == 0 then (bif decide (2 * (bt s j - 48) > 9) then 2 * (bt s j - 48) - 9 else 2 * (bt s j - 48)) else bt s j - 48
def luhn (s : ByteArray) : Int := sumTo (term s) s.size
theorem term_bound {s : ByteArray} (h : digitsB s = true) {j : Nat} (hj : j < s.size) : 0 ≤ term s j ∧ term s j ≤ 9 := by
  have := digits_at h hj
  grind [term]
theorem digit_sum_is (s : ByteArray) (hs : s.size ≤ 576460752303423488) (hd : digitsB s = true) : digit_sum.f s = some (luhn s) := by
  have hb : ∀ n, n ≤ s.size → 0 ≤ sumTo (fun j => term s (s.size - 1 - j)) n ∧ sumTo (fun j => term s (s.size - 1 - j)) n ≤ 9 * n := fun n hn => sumTo_bound fun j hj => term_bound hd (by omega)
  have h := rounds_to (t := digit_sum.t5) (fun i => (s, (sumTo (fun j => term s (s.size - 1 - j)) i, ((s.size : Int), (i : Int))))) s.size (fun i hi => by
    have h1 := digits_at hd (i := s.size - 1 - i) (by omega)
    have h2 := wrap_up (n := i) (by omega)
    have h3 : IntKind.wrap .i64 ((s.size : Int) - 1) = (s.size : Int) - 1 := wrap_i64 (by omega) (by omega)
    have h4 : IntKind.wrap .i64 ((s.size : Int) - 1 - i) = ((s.size - 1 - i : Nat) : Int) := by rw [wrap_i64 (by omega) (by omega)]; omega
    have h5 : term s (s.size - 1 - i) = bif (i : Int).tmod 2 == 1 then 2 * (bt s (s.size - 1 - i) - 48) - 9 * ((bt s (s.size - 1 - i) - 48) / 5) else bt s (s.size - 1 - i) - 48 := by
      have e : ((i : Int).tmod 2 == 1) = ((s.size - (s.size - 1 - i)) % 2 == 0) := by
        rw [Int.tmod_eq_emod_of_nonneg (by omega)]
        rw [Bool.eq_iff_iff]; simp only [beq_iff_eq]; omega
      rw [e]
      unfold term
      cases ((s.size - (s.size - 1 - i)) % 2 == 0) with
      | false => rfl
      | true =>
        simp only [cond_true]
        by_cases hx : 2 * (bt s (s.size - 1 - i) - 48) > 9
        · rw [decide_eq_true hx]; simp only [cond_true]; omega
        · rw [decide_eq_false hx]; simp only [cond_false]; omega
    have hbi := hb i (by omega)
    have hbt := term_bound hd (j := s.size - 1 - i) (by omega)
    simp only [digit_sum.t5, h3, h4, Int.toNat_natCast, sumTo, h2]
    rw [h5] at hbt ⊢
    generalize sumTo (fun j => term s (s.size - 1 - j)) i = T at hbi ⊢
    generalize bt s (s.size - 1 - i) = d at h1 hbt ⊢
    have w1 : IntKind.wrap .u8 (d - 48) = d - 48 := by rw [wrap_u8]; omega
    have w2 : IntKind.wrap .i64 (d - 48) = d - 48 := wrap_i64 (by omega) (by omega)
    have w3 : IntKind.wrap .i64 (2 * (d - 48)) = 2 * (d - 48) := wrap_i64 (by omega) (by omega)
    have w4 : Int.tdiv (d - 48) 5 = (d - 48) / 5 := Int.tdiv_eq_ediv_of_nonneg (by omega)
    have w5 : IntKind.wrap .i64 ((d - 48) / 5) = (d - 48) / 5 := wrap_i64 (by omega) (by omega)
    have w6 : IntKind.wrap .i64 (9 * ((d - 48) / 5)) = 9 * ((d - 48) / 5) := wrap_i64 (by omega) (by omega)
    have w7 : IntKind.wrap .i64 (2 * (d - 48) - 9 * ((d - 48) / 5)) = 2 * (d - 48) - 9 * ((d - 48) / 5) := wrap_i64 (by omega) (by omega)
    have w8 : IntKind.wrap .i64 (T + (2 * (d - 48) - 9 * ((d - 48) / 5))) = T + (2 * (d - 48) - 9 * ((d - 48) / 5)) := wrap_i64 (by omega) (by omega)
    have w9 : IntKind.wrap .i64 (T + (d - 48)) = T + (d - 48) := wrap_i64 (by omega) (by omega)
    rw [w1, w2, w3, w4, w5, w6, w7, w8, w9]
    have g1 : decide ((i : Int) < (s.size : Int)) = true := decide_eq_true (by omega)
    have g2 : decide ((0 : Int) ≤ ((s.size - 1 - i : Nat) : Int)) = true := decide_eq_true (by omega)
    have g3 : decide (((s.size - 1 - i : Nat) : Int) < (s.size : Int)) = true := decide_eq_true (by omega)
    rw [g1, g2, g3]
    cases ((i : Int).tmod 2 == 1) <;> rfl)
  unfold digit_sum.f digit_sum.l5
  have h0 : (s, ((0 : Int), ((s.size : Int), (0 : Int)))) = (s, (sumTo (fun j => term s (s.size - 1 - j)) 0, ((s.size : Int), ((0 : Nat) : Int)))) := rfl
  rw [h0, h, sumTo_back, rounds_end (r := luhn s) (by simp [digit_sum.t5, luhn])]
  rfl
theorem digit_Sound_is (s : ByteArray) (hs : s.size ≤ 576460752303423488) : digit_Sound.f s = some (decide (2 ≤ s.size) && (digitsB s && (luhn s % 10 == 0))) := by
  have hl : digitsB s = true → 0 ≤ luhn s := fun hd => (sumTo_bound (f := term s) (b := 9) (n := s.size) fun j hj => term_bound hd hj).1
  unfold digit_Sound.f
  rw [digit_All_is s (by omega)]
  by_cases h2 : 2 ≤ s.size
  · rw [show decide ((s.size : Int) ≥ 2) = true from decide_eq_true (by omega), decide_eq_true h2]
    cases hd : digitsB s with
    | false => rfl
    | true => simp only [Option.bind_some, cond_true, digit_sum_is s hs hd, Bool.true_and, Int.tmod_eq_emod_of_nonneg (hl hd)]
  · rw [show decide ((s.size : Int) ≥ 2) = false from decide_eq_false (by omega), decide_eq_false h2]; rfl
theorem ref_Sound_is (s : ByteArray) (hs : s.size ≤ 576460752303423488) : bursarref02_Sound.f s = some (decide (2 ≤ s.size) && (digitsB s && (luhn s % 10 == 0))) := by
  unfold bursarref02_Sound.f
  rw [ref_All_is s (by omega)]
  by_cases h2 : 2 ≤ s.size
  · rw [show decide ((s.size : Int) < 2) = false from decide_eq_false (by omega), decide_eq_true h2]
    cases hd : digitsB s with
    | false => rfl
    | true =>
      have hb : ∀ n, n ≤ s.size → 0 ≤ sumTo (term s) n ∧ sumTo (term s) n ≤ 9 * n := fun n hn => sumTo_bound fun j hj => term_bound hd (by omega)
      have h := rounds_to (t := bursarref02_Sound.t7) (fun i => (s, (sumTo (term s) i, (i : Int)))) s.size (fun i hi => by
        have h1 := digits_at hd (i := i) hi
        have h2 := wrap_up (n := i) (by omega)
        have h3 : IntKind.wrap .i64 ((s.size : Int) - i) = ((s.size - i : Nat) : Int) := by rw [wrap_i64 (by omega) (by omega)]; omega
        have h5 : ((((s.size - i : Nat) : Int).tmod 2) == 0) = ((s.size - i) % 2 == 0) := by
          rw [Int.tmod_eq_emod_of_nonneg (by omega), Bool.eq_iff_iff]; simp only [beq_iff_eq]; omega
        have hbi := hb i (by omega)
        simp only [bursarref02_Sound.t7, h3, h5, Int.toNat_natCast, sumTo, h2, term]
        generalize sumTo (term s) i = T at hbi ⊢
        have w1 : IntKind.wrap .i64 (bt s i) = bt s i := wrap_i64 (by omega) (by omega)
        have w2 : IntKind.wrap .i64 (bt s i - 48) = bt s i - 48 := wrap_i64 (by omega) (by omega)
        have w3 : IntKind.wrap .i64 (2 * (bt s i - 48)) = 2 * (bt s i - 48) := wrap_i64 (by omega) (by omega)
        have w7 : IntKind.wrap .i64 (2 * (bt s i - 48) - 9) = 2 * (bt s i - 48) - 9 := wrap_i64 (by omega) (by omega)
        have w8 : IntKind.wrap .i64 (T + (2 * (bt s i - 48) - 9)) = T + (2 * (bt s i - 48) - 9) := wrap_i64 (by omega) (by omega)
        have w9 : IntKind.wrap .i64 (T + (bt s i - 48)) = T + (bt s i - 48) := wrap_i64 (by omega) (by omega)
        have w10 : IntKind.wrap .i64 (T + 2 * (bt s i - 48)) = T + 2 * (bt s i - 48) := wrap_i64 (by omega) (by omega)
        simp only [w1, w2, w3, w7, w8, w9, w10]
        have g1 : decide ((i : Int) < (s.size : Int)) = true := decide_eq_true (by omega)
        have g2 : decide ((0 : Int) ≤ (i : Int)) = true := decide_eq_true (by omega)
        simp only [g1, g2, Bool.and_self, cond_true]
        cases ((s.size - i) % 2 == 0)
        · rfl
        · cases decide (2 * (bt s i - 48) > 9) <;> rfl)
      have h0 : (s, ((0 : Int), (0 : Int))) = (s, (sumTo (term s) 0, ((0 : Nat) : Int))) := rfl
      have hl := (hb s.size (Nat.le_refl _)).1
      unfold bursarref02_Sound.l7
      simp only [Option.bind_some, cond_true, cond_false, Bool.not_true, Bool.true_and]
      rw [h0, h, rounds_end (r := luhn s) (by simp [bursarref02_Sound.t7, luhn])]
      simp only [Option.bind_some, Int.tmod_eq_emod_of_nonneg (show 0 ≤ luhn s from hl)]
  · rw [show decide ((s.size : Int) < 2) = true from decide_eq_true (by omega), decide_eq_false h2]; rfl
end Go.Proofs.YtnnebljljmpdkaaDoor
end
section
/- The Go function chart.May, as a Lean function, and that it is this one. Written by a program of this session. -/
set_option linter.unusedVariables false
set_option maxRecDepth 100000
namespace Go.Proofs.YtnnebljljmpdkaaDoor
open Go Go.Fw
abbrev chart_May.As : Shs := (.cons (.x T_api_Account) .nil)
abbrev chart_May.m : Back := [(false, .b)]
noncomputable abbrev chart_May.H : HK := hk P G0 E0 J0 [digit_Sound.row, digit_All.row] noLoops 4
theorem chart_May.rows : TabOK P G0 (tabF [digit_Sound.row, digit_All.row]) := rows_ok (ws := [digit_Sound.row, digit_All.row]) ⟨digit_Sound.row_ok, ⟨digit_All.row_ok, trivial⟩⟩
theorem chart_May.hok : HKOK P chart_May.H := hk_ok e0_ok j0_ok chart_May.rows (fun g n => noLoops_ok g n) 4
noncomputable def chart_May.f (a : (Int × ByteArray)) : Option Bool := (bif (a.1 == (1 : Int)) then (bif ((a.2.size : Int) == (16 : Int)) then (((digit_Sound.f a.2)).bind fun (x1 : Bool) => (some x1)) else (some false)) else (bif (a.1 == (2 : Int)) then (bif ((a.2.size : Int) == (6 : Int)) then (((digit_All.f a.2)).bind fun (x1 : Bool) => (some x1)) else (some false)) else (bif (a.1 == (3 : Int)) then (bif (a.1 == (3 : Int)) then (some ((ByteArray.toList a.2) == [])) else (some false)) else (bif (a.1 == (4 : Int)) then (some ((ByteArray.toList a.2) == [])) else (some false)))))
theorem chart_May.ok : ∀ a : Vals chart_May.As.tys, fnK P chart_May.H (lp []) 32 chart_May.As chart_May.m a some = chart_May.f a := fun a => by kernel_rfl
noncomputable abbrev chart_May.row : Row := fnRow 32 chart_May.As chart_May.m chart_May.f
theorem chart_May.row_ok : RowOK P G0 chart_May.row := row_told chart_May.hok (lp_of (l := []) trivial) (fun _ => rfl) chart_May.ok
end Go.Proofs.YtnnebljljmpdkaaDoor
end
section
/- The Go function bursarref11.Name, as a Lean function, and that it is this one. Written by a program of this session. -/
set_option linter.unusedVariables false
set_option maxRecDepth 100000
namespace Go.Proofs.YtnnebljljmpdkaaDoor
open Go Go.Fw
abbrev bursarref11_Name.As : Shs := (.cons (.x T_api_Account) .nil)
abbrev bursarref11_Name.m : Back := [(false, .s), (false, .b)]
noncomputable abbrev bursarref11_Name.H : HK := hk P G0 E0 J0 [bursarref02_Sound.row, bursarref02_All.row] noLoops 4
theorem bursarref11_Name.rows : TabOK P G0 (tabF [bursarref02_Sound.row, bursarref02_All.row]) := rows_ok (ws := [bursarref02_Sound.row, bursarref02_All.row]) ⟨bursarref02_Sound.row_ok, ⟨bursarref02_All.row_ok, trivial⟩⟩
theorem bursarref11_Name.hok : HKOK P bursarref11_Name.H := hk_ok e0_ok j0_ok bursarref11_Name.rows (fun g n => noLoops_ok g n) 4
noncomputable def bursarref11_Name.f (a : (Int × ByteArray)) : Option (ByteArray × Bool) := (bif (a.1 == (1 : Int)) then (bif ((a.2.size : Int) == (16 : Int)) then (((bursarref02_Sound.f a.2)).bind fun (x1 : Bool) => (bif x1 then (bif (Nat.ble (1 + a.2.size) 9223372036854775807) then (some (((bs [67]) ++ a.2), true)) else none) else (bif (a.1 == (2 : Int)) then (bif ((a.2.size : Int) == (6 : Int)) then (((bursarref02_All.f a.2)).bind fun (x2 : Bool) => (bif x2 then (bif (Nat.ble (1 + a.2.size) 9223372036854775807) then (some (((bs [65]) ++ a.2), true)) else none) else (bif (a.1 == (3 : Int)) then (bif ((ByteArray.toList a.2) == []) then (some ((bs [72]), true)) else (bif (a.1 == (4 : Int)) then (bif ((ByteArray.toList a.2) == []) then (some ((bs [68]), true)) else (some ((bs []), false))) else (some ((bs []), false)))) else (bif (a.1 == (4 : Int)) then (bif ((ByteArray.toList a.2) == []) then (some ((bs [68]), true)) else (some ((bs []), false))) else (some ((bs []), false)))))) else (bif (a.1 == (3 : Int)) then (bif ((ByteArray.toList a.2) == []) then (some ((bs [72]), true)) else (bif (a.1 == (4 : Int)) then (bif ((ByteArray.toList a.2) == []) then (some ((bs [68]), true)) else (some ((bs []), false))) else (some ((bs []), false)))) else (bif (a.1 == (4 : Int)) then (bif ((ByteArray.toList a.2) == []) then (some ((bs [68]), true)) else (some ((bs []), false))) else (some ((bs []), false))))) else (bif (a.1 == (3 : Int)) then (bif ((ByteArray.toList a.2) == []) then (some ((bs [72]), true)) else (bif (a.1 == (4 : Int)) then (bif ((ByteArray.toList a.2) == []) then (some ((bs [68]), true)) else (some ((bs []), false))) else (some ((bs []), false)))) else (bif (a.1 == (4 : Int)) then (bif ((ByteArray.toList a.2) == []) then (some ((bs [68]), true)) else (some ((bs []), false))) else (some ((bs []), false))))))) else (bif (a.1 == (2 : Int)) then (bif ((a.2.size : Int) == (6 : Int)) then (((bursarref02_All.f a.2)).bind fun (x1 : Bool) => (bif x1 then (bif (Nat.ble (1 + a.2.size) 9223372036854775807) then (some (((bs [65]) ++ a.2), true)) else none) else (bif (a.1 == (3 : Int)) then (bif ((ByteArray.toList a.2) == []) then (some ((bs [72]), true)) else (bif (a.1 == (4 : Int)) then (bif ((ByteArray.toList a.2) == []) then (some ((bs [68]), true)) else (some ((bs []), false))) else (some ((bs []), false)))) else (bif (a.1 == (4 : Int)) then (bif ((ByteArray.toList a.2) == []) then (some ((bs [68]), true)) else (some ((bs []), false))) else (some ((bs []), false)))))) else (bif (a.1 == (3 : Int)) then (bif ((ByteArray.toList a.2) == []) then (some ((bs [72]), true)) else (bif (a.1 == (4 : Int)) then (bif ((ByteArray.toList a.2) == []) then (some ((bs [68]), true)) else (some ((bs []), false))) else (some ((bs []), false)))) else (bif (a.1 == (4 : Int)) then (bif ((ByteArray.toList a.2) == []) then (some ((bs [68]), true)) else (some ((bs []), false))) else (some ((bs []), false))))) else (bif (a.1 == (3 : Int)) then (bif ((ByteArray.toList a.2) == []) then (some ((bs [72]), true)) else (bif (a.1 == (4 : Int)) then (bif ((ByteArray.toList a.2) == []) then (some ((bs [68]), true)) else (some ((bs []), false))) else (some ((bs []), false)))) else (bif (a.1 == (4 : Int)) then (bif ((ByteArray.toList a.2) == []) then (some ((bs [68]), true)) else (some ((bs []), false))) else (some ((bs []), false)))))) else (bif (a.1 == (2 : Int)) then (bif ((a.2.size : Int) == (6 : Int)) then (((bursarref02_All.f a.2)).bind fun (x1 : Bool) => (bif x1 then (bif (Nat.ble (1 + a.2.size) 9223372036854775807) then (some (((bs [65]) ++ a.2), true)) else none) else (bif (a.1 == (3 : Int)) then (bif ((ByteArray.toList a.2) == []) then (some ((bs [72]), true)) else (bif (a.1 == (4 : Int)) then (bif ((ByteArray.toList a.2) == []) then (some ((bs [68]), true)) else (some ((bs []), false))) else (some ((bs []), false)))) else (bif (a.1 == (4 : Int)) then (bif ((ByteArray.toList a.2) == []) then (some ((bs [68]), true)) else (some ((bs []), false))) else (some ((bs []), false)))))) else (bif (a.1 == (3 : Int)) then (bif ((ByteArray.toList a.2) == []) then (some ((bs [72]), true)) else (bif (a.1 == (4 : Int)) then (bif ((ByteArray.toList a.2) == []) then (some ((bs [68]), true)) else (some ((bs []), false))) else (some ((bs []), false)))) else (bif (a.1 == (4 : Int)) then (bif ((ByteArray.toList a.2) == []) then (some ((bs [68]), true)) else (some ((bs []), false))) else (some ((bs []), false))))) else (bif (a.1 == (3 : Int)) then (bif ((ByteArray.toList a.2) == []) then (some ((bs [72]), true)) else (bif (a.1 == (4 : Int)) then (bif ((ByteArray.toList a.2) == []) then (some ((bs [68]), true)) else (some ((bs []), false))) else (some ((bs []), false)))) else (bif (a.1 == (4 : Int)) then (bif ((ByteArray.toList a.2) == []) then (some ((bs [68]), true)) else (some ((bs []), false))) else (some ((bs []), false))))))
theorem bursarref11_Name.ok : ∀ a : Vals bursarref11_Name.As.tys, fnK P bursarref11_Name.H (lp []) 24 bursarref11_Name.As bursarref11_Name.m a some = bursarref11_Name.f a := fun a => by kernel_rfl
noncomputable abbrev bursarref11_Name.row : Row := fnRow 24 bursarref11_Name.As bursarref11_Name.m bursarref11_Name.f
theorem bursarref11_Name.row_ok : RowOK P G0 bursarref11_Name.row := row_told bursarref11_Name.hok (lp_of (l := []) trivial) (fun _ => rfl) bursarref11_Name.ok
end Go.Proofs.YtnnebljljmpdkaaDoor
end
section
/- References, cards, acquirers, and which holds may be: what the code and the document's answer compute. By this session. -/
set_option linter.unusedVariables false
set_option linter.unusedSimpArgs false
namespace Go.Proofs.YtnnebljljmpdkaaDoor
open Go Go.Fw
def refC (s : ByteArray) (i : Nat) : Bool := (decide (48 ≤ bt s i) && decide (bt s i ≤ 57)) || (decide (65 ≤ bt s i) && decide (bt s i ≤ 90))
def refB (s : ByteArray) : Bool := s.size == 12 && (List.range s.size).all (refC s)
def soundB (s : ByteArray) : Bool := decide (2 ≤ s.size) && (digitsB s && (luhn s % 10 == 0))
def cardB (s : ByteArray) : Bool := s.size == 16 && soundB s
def acqB (s : ByteArray) : Bool := s.size == 6 && digitsB s
theorem size_is {s : ByteArray} (n : Nat) : ((s.size : Int) == (n : Int)) = (s.size == n) := by rw [Bool.eq_iff_iff]; simp only [beq_iff_eq]; omega
theorem card_is (s : ByteArray) : chart_May.f (1, s) = some (cardB s) := by
  have e := size_is (s := s) 16
  unfold chart_May.f cardB
  by_cases h : s.size = 16
  · have := digit_Sound_is s (by omega)
    rw [show ((s.size : Int) == 16) = true from by simp; omega, show (s.size == 16) = true from by simp [h]]
    simp only [this, beq_self_eq_true, cond_true, Option.bind_some, Bool.true_and]
    rfl
  · rw [show ((s.size : Int) == 16) = false from by simp; omega, show (s.size == 16) = false from by simp [h]]
    rfl
theorem acq_is (s : ByteArray) : chart_May.f (2, s) = some (acqB s) := by
  unfold chart_May.f acqB
  by_cases h : s.size = 6
  · have := digit_All_is s (by omega)
    rw [show ((s.size : Int) == 6) = true from by simp; omega, show (s.size == 6) = true from by simp [h]]
    simp [this]
  · rw [show ((s.size : Int) == 6) = false from by simp; omega, show (s.size == 6) = false from by simp [h]]
    rfl
theorem ref_card_is (s : ByteArray) : ∃ t, bursarref11_Name.f (1, s) = some (t, cardB s) := by
  unfold bursarref11_Name.f cardB
  by_cases h : s.size = 16
  · have := ref_Sound_is s (by omega)
    have e : bursarref02_Sound.f s = some (soundB s) := this
    have b1 : Nat.ble (1 + s.size) 9223372036854775807 = true := by rw [h]; rfl
    rw [e, b1, show ((s.size : Int) == 16) = true from by simp; omega, show (s.size == 16) = true from by simp [h]]
    cases soundB s
    · exact ⟨_, rfl⟩
    · exact ⟨_, rfl⟩
  · rw [show ((s.size : Int) == 16) = false from by simp; omega, show (s.size == 16) = false from by simp [h]]
    simp
theorem ref_acq_is (s : ByteArray) : ∃ t, bursarref11_Name.f (2, s) = some (t, acqB s) := by
  unfold bursarref11_Name.f acqB
  by_cases h : s.size = 6
  · have := ref_All_is s (by omega)
    have b1 : Nat.ble (1 + s.size) 9223372036854775807 = true := by rw [h]; rfl
    rw [this, b1, show ((s.size : Int) == 6) = true from by simp; omega, show (s.size == 6) = true from by simp [h]]
    cases digitsB s
    · exact ⟨_, rfl⟩
    · exact ⟨_, rfl⟩
  · rw [show ((s.size : Int) == 6) = false from by simp; omega, show (s.size == 6) = false from by simp [h]]
    simp
/-- a hold as the code has it: its reference, acquirer, card, approved, captured, until, open -/
abbrev Hd := ByteArray × (ByteArray × (ByteArray × (Int × (Int × (Int × Bool)))))
def untilB (n : Int) : Bool := decide (0 ≤ n) && decide (n ≤ 2147483647)
def mayB (h : Hd) : Bool := refB h.1 && (cardB h.2.2.1 && (acqB h.2.1 && (untilB h.2.2.2.2.2.1 && (decide (0 ≤ h.2.2.2.2.1) && (decide (h.2.2.2.2.1 ≤ h.2.2.2.1) && (!h.2.2.2.2.2.2 || decide (h.2.2.2.2.1 < h.2.2.2.1)))))))
end Go.Proofs.YtnnebljljmpdkaaDoor
end
section
/- The Go function money.Sum, as a Lean function, and that it is this one. Written by a program of this session. -/
set_option linter.unusedVariables false
set_option maxRecDepth 100000
namespace Go.Proofs.YtnnebljljmpdkaaDoor
open Go Go.Fw
abbrev money_Sum.As : Shs := (.cons (.x (.l (.i .i64))) .nil)
abbrev money_Sum.m : Back := [(false, (.i .i64)), (false, (.i .i64))]
noncomputable abbrev money_Sum.H : HK := hk P G0 E0 J0 [] noLoops 4
theorem money_Sum.rows : TabOK P G0 (tabF []) := rows_ok (ws := []) trivial
theorem money_Sum.hok : HKOK P money_Sum.H := hk_ok e0_ok j0_ok money_Sum.rows (fun g n => noLoops_ok g n) 4
noncomputable abbrev money_Sum.sh4 : SSh := ⟨[(4, (.x (.i .i64))), (5, (.x (.i .u64))), (10, (.x (.l (.i .i64)))), (11, (.x (.i .i64))), (12, (.x (.i .i64)))], []⟩
noncomputable abbrev money_Sum.os4 : PEnds := [((.exit 0), ⟨[(4, (.x (.i .i64))), (5, (.x (.i .u64)))], []⟩)]
noncomputable def money_Sum.t4 (s : (Int × (Int × ((List Int) × (Int × Int))))) : Option ((Int × (Int × ((List Int) × (Int × Int)))) ⊕ ((Int × Int))) := (bif (decide ((s.2.2.2.2 < s.2.2.2.1))) then (bif ((decide (((0 : Int) ≤ s.2.2.2.2))) && (decide ((s.2.2.2.2 < ((List.length s.2.2.1) : Int))))) then (bif ((((decide (((0 : Int) ≤ s.2.1))) && (decide (((0 : Int) ≤ (IntKind.wrap .u64 (List.getD s.2.2.1 (Int.toNat s.2.2.2.2) (0 : Int))))))) && true) && true) then (some (.inl ((IntKind.wrap .i64 (s.1 + (IntKind.wrap .i64 ((Int.fdiv (List.getD s.2.2.1 (Int.toNat s.2.2.2.2) (0 : Int)) (9223372036854775808 : Int)) + (IntKind.wrap .i64 (HDiv.hDiv ((s.2.1 + (IntKind.wrap .u64 (List.getD s.2.2.1 (Int.toNat s.2.2.2.2) (0 : Int)))) + (0 : Int)) (18446744073709551616 : Int))))))), ((HMod.hMod ((s.2.1 + (IntKind.wrap .u64 (List.getD s.2.2.1 (Int.toNat s.2.2.2.2) (0 : Int)))) + (0 : Int)) (18446744073709551616 : Int)), (s.2.2.1, (s.2.2.2.1, (IntKind.wrap .i64 (s.2.2.2.2 + (1 : Int))))))))) else none) else none) else (some (.inr (s.1, s.2.1))))
theorem money_Sum.t4_ok : ∀ s : Vals money_Sum.sh4.tys, turnK P money_Sum.H (lp []) (bodyAt (codeOf P 36) 4) 0 money_Sum.sh4 money_Sum.os4 s some = money_Sum.t4 s := fun s => by kernel_rfl
noncomputable def money_Sum.l4 : (Int × (Int × ((List Int) × (Int × Int)))) → Option ((Int × Int)) := rounds money_Sum.t4
noncomputable def money_Sum.f (a : (List Int)) : Option (Int × Int) := (((money_Sum.l4 ((0 : Int), ((0 : Int), (a, (((List.length a) : Int), (0 : Int))))))).bind fun (x1 : (Int × Int)) => (bif (x1.1 != (Int.fdiv (IntKind.wrap .i64 x1.2) (9223372036854775808 : Int))) then (some ((0 : Int), (2 : Int))) else (some ((IntKind.wrap .i64 x1.2), (0 : Int)))))
theorem money_Sum.ok : ∀ a : Vals money_Sum.As.tys, fnK P money_Sum.H (lp [(4, (NodeT.summ ⟨money_Sum.sh4, money_Sum.os4, money_Sum.l4⟩ 0))]) 36 money_Sum.As money_Sum.m a some = money_Sum.f a := fun a => by kernel_rfl
noncomputable abbrev money_Sum.row : Row := fnRow 36 money_Sum.As money_Sum.m money_Sum.f
theorem money_Sum.row_ok : RowOK P G0 money_Sum.row := row_told money_Sum.hok (lp_of (l := [(4, (NodeT.summ ⟨money_Sum.sh4, money_Sum.os4, money_Sum.l4⟩ 0))]) ⟨(loop_sum money_Sum.hok (by kernel_rfl) (by kernel_rfl) (l := []) trivial money_Sum.sh4 money_Sum.os4 (by kernel_rfl) money_Sum.t4 money_Sum.t4_ok), trivial⟩) (fun _ => rfl) money_Sum.ok
end Go.Proofs.YtnnebljljmpdkaaDoor
end
section
/- The Go function bursarref01.Sum, as a Lean function, and that it is this one. Written by a program of this session. -/
set_option linter.unusedVariables false
set_option maxRecDepth 100000
namespace Go.Proofs.YtnnebljljmpdkaaDoor
open Go Go.Fw
abbrev bursarref01_Sum.As : Shs := (.cons (.x (.l (.i .i64))) .nil)
abbrev bursarref01_Sum.m : Back := [(false, (.i .i64)), (false, .b)]
noncomputable abbrev bursarref01_Sum.H : HK := hk P G0 E0 J0 [] noLoops 4
theorem bursarref01_Sum.rows : TabOK P G0 (tabF []) := rows_ok (ws := []) trivial
theorem bursarref01_Sum.hok : HKOK P bursarref01_Sum.H := hk_ok e0_ok j0_ok bursarref01_Sum.rows (fun g n => noLoops_ok g n) 4
noncomputable abbrev bursarref01_Sum.sh4 : SSh := ⟨[(0, (.x (.l (.i .i64)))), (4, (.own 0 1)), (5, (.own 1 1)), (6, (.x (.i .i64)))], [.arrN (.i .i64), .arrN (.i .i64)]⟩
noncomputable abbrev bursarref01_Sum.os4 : PEnds := [((.exit 0), ⟨[(4, (.x (.l (.i .i64)))), (5, (.x (.l (.i .i64))))], []⟩)]
noncomputable def bursarref01_Sum.t4 (s : ((List Int) × (Int × ((List Int) × (List Int))))) : Option (((List Int) × (Int × ((List Int) × (List Int)))) ⊕ (((List Int) × (List Int)))) := (bif (decide ((s.2.1 < ((List.length s.1) : Int)))) then (bif ((decide (((0 : Int) ≤ s.2.1))) && (decide ((s.2.1 < ((List.length s.1) : Int))))) then (bif (decide (((List.getD s.1 (Int.toNat s.2.1) (0 : Int)) ≥ (0 : Int)))) then (bif ((decide (((0 : Int) ≤ s.2.1))) && (decide ((s.2.1 < ((List.length s.1) : Int))))) then (bif ((true && (Nat.ble (((List.length s.2.2.1) + (List.length ((List.getD s.1 (Int.toNat s.2.1) (0 : Int)) :: []))) * 8) 140737488355328)) && (Nat.ble ((List.length s.2.2.1) + (List.length ((List.getD s.1 (Int.toNat s.2.1) (0 : Int)) :: []))) 140737488355328)) then (some (.inl (s.1, ((IntKind.wrap .i64 (s.2.1 + (1 : Int))), ((s.2.2.1 ++ ((List.getD s.1 (Int.toNat s.2.1) (0 : Int)) :: [])), s.2.2.2))))) else none) else none) else (bif ((decide (((0 : Int) ≤ s.2.1))) && (decide ((s.2.1 < ((List.length s.1) : Int))))) then (bif ((true && (Nat.ble (((List.length s.2.2.2) + (List.length ((List.getD s.1 (Int.toNat s.2.1) (0 : Int)) :: []))) * 8) 140737488355328)) && (Nat.ble ((List.length s.2.2.2) + (List.length ((List.getD s.1 (Int.toNat s.2.1) (0 : Int)) :: []))) 140737488355328)) then (some (.inl (s.1, ((IntKind.wrap .i64 (s.2.1 + (1 : Int))), (s.2.2.1, (s.2.2.2 ++ ((List.getD s.1 (Int.toNat s.2.1) (0 : Int)) :: []))))))) else none) else none)) else none) else (some (.inr s.2.2)))
theorem bursarref01_Sum.t4_ok : ∀ s : Vals bursarref01_Sum.sh4.tys, turnK P bursarref01_Sum.H (lp []) (bodyAt (codeOf P 16) 4) 0 bursarref01_Sum.sh4 bursarref01_Sum.os4 s some = bursarref01_Sum.t4 s := by rintro ⟨s0, s1, s2, s3⟩; cases s2 <;> cases s3 <;> kernel_rfl
noncomputable def bursarref01_Sum.l4 : ((List Int) × (Int × ((List Int) × (List Int)))) → Option (((List Int) × (List Int))) := rounds bursarref01_Sum.t4
noncomputable abbrev bursarref01_Sum.sh8 : SSh := ⟨[(4, (.x (.l (.i .i64)))), (5, (.x (.l (.i .i64)))), (7, (.x (.i .i64))), (8, (.x (.i .i64))), (9, (.x (.i .i64)))], []⟩
noncomputable abbrev bursarref01_Sum.sh8_0 : SSh := ⟨[(4, (.x (.l (.i .i64)))), (5, (.x (.l (.i .i64)))), (7, (.x (.i .i64))), (8, (.x (.i .i64))), (9, (.x (.i .i64)))], []⟩
noncomputable abbrev bursarref01_Sum.os8_0 : PEnds := [(.n, ⟨[(4, (.x (.l (.i .i64)))), (5, (.x (.l (.i .i64)))), (7, (.x (.i .i64))), (8, (.x (.i .i64))), (9, (.x (.i .i64))), (45, (.x .b))], []⟩)]
noncomputable def bursarref01_Sum.l8_0 (s : ((List Int) × ((List Int) × (Int × (Int × Int))))) : Option (((List Int) × ((List Int) × (Int × (Int × (Int × Bool)))))) := (bif (decide ((s.2.2.2.1 < ((List.length s.1) : Int)))) then (some (s.1, (s.2.1, (s.2.2.1, (s.2.2.2.1, (s.2.2.2.2, true)))))) else (some (s.1, (s.2.1, (s.2.2.1, (s.2.2.2.1, (s.2.2.2.2, (decide ((s.2.2.2.2 < ((List.length s.2.1) : Int)))))))))))
theorem bursarref01_Sum.l8_0_ok : ∀ s : Vals bursarref01_Sum.sh8_0.tys, nodeK P bursarref01_Sum.H (lp []) (placeAt (bodyAt (codeOf P 16) 8) 0) 0 bursarref01_Sum.sh8_0 bursarref01_Sum.os8_0 s some = bursarref01_Sum.l8_0 s := fun s => by kernel_rfl
noncomputable abbrev bursarref01_Sum.sh8_4 : SSh := ⟨[(4, (.x (.l (.i .i64)))), (5, (.x (.l (.i .i64)))), (7, (.x (.i .i64))), (8, (.x (.i .i64))), (9, (.x (.i .i64)))], []⟩
noncomputable abbrev bursarref01_Sum.os8_4 : PEnds := [(.n, ⟨[(4, (.x (.l (.i .i64)))), (5, (.x (.l (.i .i64)))), (7, (.x (.i .i64))), (8, (.x (.i .i64))), (9, (.x (.i .i64))), (59, (.x .b))], []⟩)]
noncomputable def bursarref01_Sum.l8_4 (s : ((List Int) × ((List Int) × (Int × (Int × Int))))) : Option (((List Int) × ((List Int) × (Int × (Int × (Int × Bool)))))) := (bif (decide ((s.2.2.2.2 ≥ ((List.length s.2.1) : Int)))) then (some (s.1, (s.2.1, (s.2.2.1, (s.2.2.2.1, (s.2.2.2.2, true)))))) else (bif (decide ((s.2.2.2.1 < ((List.length s.1) : Int)))) then (some (s.1, (s.2.1, (s.2.2.1, (s.2.2.2.1, (s.2.2.2.2, (decide ((s.2.2.1 < (0 : Int)))))))))) else (some (s.1, (s.2.1, (s.2.2.1, (s.2.2.2.1, (s.2.2.2.2, false))))))))
theorem bursarref01_Sum.l8_4_ok : ∀ s : Vals bursarref01_Sum.sh8_4.tys, nodeK P bursarref01_Sum.H (lp []) (placeAt (bodyAt (codeOf P 16) 8) 4) 0 bursarref01_Sum.sh8_4 bursarref01_Sum.os8_4 s some = bursarref01_Sum.l8_4 s := fun s => by kernel_rfl
noncomputable abbrev bursarref01_Sum.sh8_5 : SSh := ⟨[(4, (.x (.l (.i .i64)))), (5, (.x (.l (.i .i64)))), (7, (.x (.i .i64))), (8, (.x (.i .i64))), (9, (.x (.i .i64))), (59, (.x .b))], []⟩
noncomputable abbrev bursarref01_Sum.os8_5 : PEnds := [(.n, ⟨[(4, (.x (.l (.i .i64)))), (5, (.x (.l (.i .i64)))), (7, (.x (.i .i64))), (8, (.x (.i .i64))), (9, (.x (.i .i64))), (10, (.x (.i .i64)))], []⟩)]
noncomputable def bursarref01_Sum.l8_5 (s : ((List Int) × ((List Int) × (Int × (Int × (Int × Bool)))))) : Option (((List Int) × ((List Int) × (Int × (Int × (Int × Int)))))) := (bif s.2.2.2.2.2 then (bif ((decide (((0 : Int) ≤ s.2.2.2.1))) && (decide ((s.2.2.2.1 < ((List.length s.1) : Int))))) then (some (s.1, (s.2.1, (s.2.2.1, ((IntKind.wrap .i64 (s.2.2.2.1 + (1 : Int))), (s.2.2.2.2.1, (List.getD s.1 (Int.toNat s.2.2.2.1) (0 : Int)))))))) else none) else (bif ((decide (((0 : Int) ≤ s.2.2.2.2.1))) && (decide ((s.2.2.2.2.1 < ((List.length s.2.1) : Int))))) then (some (s.1, (s.2.1, (s.2.2.1, (s.2.2.2.1, ((IntKind.wrap .i64 (s.2.2.2.2.1 + (1 : Int))), (List.getD s.2.1 (Int.toNat s.2.2.2.2.1) (0 : Int)))))))) else none))
theorem bursarref01_Sum.l8_5_ok : ∀ s : Vals bursarref01_Sum.sh8_5.tys, nodeK P bursarref01_Sum.H (lp []) (placeAt (bodyAt (codeOf P 16) 8) 5) 0 bursarref01_Sum.sh8_5 bursarref01_Sum.os8_5 s some = bursarref01_Sum.l8_5 s := fun s => by kernel_rfl
noncomputable abbrev bursarref01_Sum.sh8_10 : SSh := ⟨[(4, (.x (.l (.i .i64)))), (5, (.x (.l (.i .i64)))), (7, (.x (.i .i64))), (8, (.x (.i .i64))), (9, (.x (.i .i64))), (10, (.x (.i .i64)))], []⟩
noncomputable abbrev bursarref01_Sum.os8_10 : PEnds := [(.n, ⟨[(4, (.x (.l (.i .i64)))), (5, (.x (.l (.i .i64)))), (7, (.x (.i .i64))), (8, (.x (.i .i64))), (9, (.x (.i .i64))), (10, (.x (.i .i64))), (89, (.x .b))], []⟩)]
noncomputable def bursarref01_Sum.l8_10 (s : ((List Int) × ((List Int) × (Int × (Int × (Int × Int)))))) : Option (((List Int) × ((List Int) × (Int × (Int × (Int × (Int × Bool))))))) := (bif (decide ((s.2.2.2.2.2 > (0 : Int)))) then (bif (decide ((s.2.2.1 > (IntKind.wrap .i64 ((9223372036854775807 : Int) - s.2.2.2.2.2))))) then (some (s.1, (s.2.1, (s.2.2.1, (s.2.2.2.1, (s.2.2.2.2.1, (s.2.2.2.2.2, true))))))) else (bif (decide ((s.2.2.2.2.2 < (0 : Int)))) then (some (s.1, (s.2.1, (s.2.2.1, (s.2.2.2.1, (s.2.2.2.2.1, (s.2.2.2.2.2, (decide ((s.2.2.1 < (IntKind.wrap .i64 ((-9223372036854775808 : Int) - s.2.2.2.2.2)))))))))))) else (some (s.1, (s.2.1, (s.2.2.1, (s.2.2.2.1, (s.2.2.2.2.1, (s.2.2.2.2.2, false))))))))) else (bif (decide ((s.2.2.2.2.2 < (0 : Int)))) then (some (s.1, (s.2.1, (s.2.2.1, (s.2.2.2.1, (s.2.2.2.2.1, (s.2.2.2.2.2, (decide ((s.2.2.1 < (IntKind.wrap .i64 ((-9223372036854775808 : Int) - s.2.2.2.2.2)))))))))))) else (some (s.1, (s.2.1, (s.2.2.1, (s.2.2.2.1, (s.2.2.2.2.1, (s.2.2.2.2.2, false)))))))))
theorem bursarref01_Sum.l8_10_ok : ∀ s : Vals bursarref01_Sum.sh8_10.tys, nodeK P bursarref01_Sum.H (lp []) (placeAt (bodyAt (codeOf P 16) 8) 10) 0 bursarref01_Sum.sh8_10 bursarref01_Sum.os8_10 s some = bursarref01_Sum.l8_10 s := fun s => by kernel_rfl
noncomputable abbrev bursarref01_Sum.os8 : PEnds := [(.ret, ⟨[(2, (.x (.i .i64))), (3, (.x .b))], []⟩), ((.exit 2), ⟨[(7, (.x (.i .i64)))], []⟩)]
noncomputable def bursarref01_Sum.t8 (s : ((List Int) × ((List Int) × (Int × (Int × Int))))) : Option (((List Int) × ((List Int) × (Int × (Int × Int)))) ⊕ ((Int × Bool) ⊕ Int)) := (((bursarref01_Sum.l8_0 s)).bind fun (x5 : ((List Int) × ((List Int) × (Int × (Int × (Int × Bool)))))) => (bif x5.2.2.2.2.2 then (((bursarref01_Sum.l8_4 (x5.1, (x5.2.1, (x5.2.2.1, (x5.2.2.2.1, x5.2.2.2.2.1)))))).bind fun (x6 : ((List Int) × ((List Int) × (Int × (Int × (Int × Bool)))))) => (((bursarref01_Sum.l8_5 x6)).bind fun (x7 : ((List Int) × ((List Int) × (Int × (Int × (Int × Int)))))) => (((bursarref01_Sum.l8_10 x7)).bind fun (x8 : ((List Int) × ((List Int) × (Int × (Int × (Int × (Int × Bool))))))) => (bif x8.2.2.2.2.2.2 then (some (.inr (.inl ((0 : Int), false)))) else (some (.inl (x8.1, (x8.2.1, ((IntKind.wrap .i64 (x8.2.2.1 + x8.2.2.2.2.2.1)), (x8.2.2.2.1, x8.2.2.2.2.1)))))))))) else (some (.inr (.inr x5.2.2.1)))))
theorem bursarref01_Sum.t8_ok : ∀ s : Vals bursarref01_Sum.sh8.tys, turnK P bursarref01_Sum.H (lp [(0, (NodeT.summ ⟨bursarref01_Sum.sh8_0, bursarref01_Sum.os8_0, bursarref01_Sum.l8_0⟩ 0)), (4, (NodeT.summ ⟨bursarref01_Sum.sh8_4, bursarref01_Sum.os8_4, bursarref01_Sum.l8_4⟩ 0)), (5, (NodeT.summ ⟨bursarref01_Sum.sh8_5, bursarref01_Sum.os8_5, bursarref01_Sum.l8_5⟩ 0)), (10, (NodeT.summ ⟨bursarref01_Sum.sh8_10, bursarref01_Sum.os8_10, bursarref01_Sum.l8_10⟩ 0))]) (bodyAt (codeOf P 16) 8) 0 bursarref01_Sum.sh8 bursarref01_Sum.os8 s some = bursarref01_Sum.t8 s := fun s => by kernel_rfl
noncomputable def bursarref01_Sum.l8 : ((List Int) × ((List Int) × (Int × (Int × Int)))) → Option ((Int × Bool) ⊕ Int) := rounds bursarref01_Sum.t8
noncomputable def bursarref01_Sum.f (a : (List Int)) : Option (Int × Bool) := (((bursarref01_Sum.l4 (a, ((0 : Int), ([], []))))).bind fun (x1 : ((List Int) × (List Int))) => (((bursarref01_Sum.l8 (x1.1, (x1.2, ((0 : Int), ((0 : Int), (0 : Int))))))).bind fun (x2 : ((Int × Bool) ⊕ Int)) => (match x2 with | .inl x3 => (some x3) | .inr x3 => (some (x3, true)))))
theorem bursarref01_Sum.ok : ∀ a : Vals bursarref01_Sum.As.tys, fnK P bursarref01_Sum.H (lp [(4, (NodeT.summ ⟨bursarref01_Sum.sh4, bursarref01_Sum.os4, bursarref01_Sum.l4⟩ 0)), (8, (NodeT.summ ⟨bursarref01_Sum.sh8, bursarref01_Sum.os8, bursarref01_Sum.l8⟩ 0))]) 16 bursarref01_Sum.As bursarref01_Sum.m a some = bursarref01_Sum.f a := fun a => by kernel_rfl
noncomputable abbrev bursarref01_Sum.row : Row := fnRow 16 bursarref01_Sum.As bursarref01_Sum.m bursarref01_Sum.f
theorem bursarref01_Sum.row_ok : RowOK P G0 bursarref01_Sum.row := row_told bursarref01_Sum.hok (lp_of (l := [(4, (NodeT.summ ⟨bursarref01_Sum.sh4, bursarref01_Sum.os4, bursarref01_Sum.l4⟩ 0)), (8, (NodeT.summ ⟨bursarref01_Sum.sh8, bursarref01_Sum.os8, bursarref01_Sum.l8⟩ 0))]) ⟨(loop_sum bursarref01_Sum.hok (by kernel_rfl) (by kernel_rfl) (l := []) trivial bursarref01_Sum.sh4 bursarref01_Sum.os4 (by kernel_rfl) bursarref01_Sum.t4 bursarref01_Sum.t4_ok), ⟨(loop_sum bursarref01_Sum.hok (by kernel_rfl) (by kernel_rfl) (l := [(0, (NodeT.summ ⟨bursarref01_Sum.sh8_0, bursarref01_Sum.os8_0, bursarref01_Sum.l8_0⟩ 0)), (4, (NodeT.summ ⟨bursarref01_Sum.sh8_4, bursarref01_Sum.os8_4, bursarref01_Sum.l8_4⟩ 0)), (5, (NodeT.summ ⟨bursarref01_Sum.sh8_5, bursarref01_Sum.os8_5, bursarref01_Sum.l8_5⟩ 0)), (10, (NodeT.summ ⟨bursarref01_Sum.sh8_10, bursarref01_Sum.os8_10, bursarref01_Sum.l8_10⟩ 0))]) ⟨(place_sum bursarref01_Sum.hok (by kernel_rfl) (l := []) trivial bursarref01_Sum.sh8_0 bursarref01_Sum.os8_0 bursarref01_Sum.l8_0 bursarref01_Sum.l8_0_ok), ⟨(place_sum bursarref01_Sum.hok (by kernel_rfl) (l := []) trivial bursarref01_Sum.sh8_4 bursarref01_Sum.os8_4 bursarref01_Sum.l8_4 bursarref01_Sum.l8_4_ok), ⟨(place_sum bursarref01_Sum.hok (by kernel_rfl) (l := []) trivial bursarref01_Sum.sh8_5 bursarref01_Sum.os8_5 bursarref01_Sum.l8_5 bursarref01_Sum.l8_5_ok), ⟨(place_sum bursarref01_Sum.hok (by kernel_rfl) (l := []) trivial bursarref01_Sum.sh8_10 bursarref01_Sum.os8_10 bursarref01_Sum.l8_10 bursarref01_Sum.l8_10_ok), trivial⟩⟩⟩⟩ bursarref01_Sum.sh8 bursarref01_Sum.os8 (by kernel_rfl) bursarref01_Sum.t8 bursarref01_Sum.t8_ok), trivial⟩⟩) (fun _ => rfl) bursarref01_Sum.ok
end Go.Proofs.YtnnebljljmpdkaaDoor
end
section
/- Sums of amounts: what the code and the document's answer compute. By this session. -/
set_option linter.unusedVariables false
set_option linter.unusedSimpArgs false
namespace Go.Proofs.YtnnebljljmpdkaaDoor
open Go Go.Fw
def fits (n : Int) : Bool := decide (-9223372036854775808 ≤ n) && decide (n ≤ 9223372036854775807)
def Amounts (l : List Int) : Prop := ∀ a ∈ l, -9223372036854775808 ≤ a ∧ a ≤ 9223372036854775807
theorem Amounts.at {l : List Int} (h : Amounts l) {i : Nat} (hi : i < l.length) : -9223372036854775808 ≤ l.getD i 0 ∧ l.getD i 0 ≤ 9223372036854775807 := by
  rw [getD_at hi]
  exact h _ (List.getElem_mem hi)
def upTo (l : List Int) (i : Nat) : Int := (l.take i).sum
theorem upTo_succ {l : List Int} {i : Nat} (h : i < l.length) : upTo l (i + 1) = upTo l i + l.getD i 0 := by
  unfold upTo
  rw [take_up 0 h, List.sum_append]
  simp
theorem upTo_bound {l : List Int} (h : Amounts l) : ∀ i : Nat, i ≤ l.length → -9223372036854775808 * (i : Int) ≤ upTo l i ∧ upTo l i ≤ 9223372036854775807 * (i : Int)
  | 0, _ => by simp [upTo]
  | i + 1, hi => by
    have ih := upTo_bound h i (by omega)
    have := h.at (i := i) (by omega)
    rw [upTo_succ (by omega)]
    omega
theorem wrap_back {n : Int} (h0 : 0 ≤ n) (h1 : n < 18446744073709551616) : IntKind.wrap .i64 n = if n ≥ 9223372036854775808 then n - 18446744073709551616 else n := by
  rw [IntKind.wrap_i64]; split <;> omega
/-- the sum, and the error's number -/
def sumS (n : Int) : Int × Int := bif fits n then (n, 0) else (0, 2)
theorem money_Sum_is {l : List Int} (hs : l.length ≤ 4611686018427387904) (ha : Amounts l) : money_Sum.f l = some (sumS l.sum) := by
  have h := rounds_to (t := money_Sum.t4) (fun i => (upTo l i / 18446744073709551616, (upTo l i % 18446744073709551616, (l, ((l.length : Int), (i : Int)))))) l.length (fun i hi => by
    have h2 := wrap_up (n := i) (by omega)
    obtain ⟨hb1, hb2⟩ := upTo_bound ha i (by omega)
    obtain ⟨ha1, ha2⟩ := ha.at (i := i) (by omega)
    simp only [money_Sum.t4, Int.toNat_natCast, h2]
    rw [upTo_succ (by omega)]
    obtain ⟨a, hg⟩ : ∃ a, l.getD i 0 = a := ⟨_, rfl⟩
    obtain ⟨T, hT⟩ : ∃ T, upTo l i = T := ⟨_, rfl⟩
    simp only [hg, hT] at ha1 ha2 hb1 hb2 ⊢
    have d1 : (decide ((i : Int) < (l.length : Int))) = true := decide_eq_true (by omega)
    have d3 : decide ((0 : Int) ≤ (i : Int)) = true := decide_eq_true (by omega)
    have d4 : decide ((0 : Int) ≤ T % 18446744073709551616) = true := decide_eq_true (by omega)
    have d5 : decide ((0 : Int) ≤ IntKind.wrap .u64 a) = true := decide_eq_true (by rw [wrap_u64]; omega)
    have c5 : (T % 18446744073709551616 + IntKind.wrap .u64 a + 0) % 18446744073709551616 = (T + a) % 18446744073709551616 := by rw [wrap_u64]; omega
    have c4 : IntKind.wrap .i64 (T / 18446744073709551616 + IntKind.wrap .i64 (Int.fdiv a 9223372036854775808 + IntKind.wrap .i64 ((T % 18446744073709551616 + IntKind.wrap .u64 a + 0) / 18446744073709551616))) = (T + a) / 18446744073709551616 := by
      rw [wrap_u64, Int.fdiv_eq_ediv_of_nonneg a (by omega)]
      have w1 : IntKind.wrap .i64 ((T % 18446744073709551616 + a % 18446744073709551616 + 0) / 18446744073709551616) = (T % 18446744073709551616 + a % 18446744073709551616 + 0) / 18446744073709551616 := wrap_i64 (by omega) (by omega)
      rw [w1]
      have w2 : IntKind.wrap .i64 (a / 9223372036854775808 + (T % 18446744073709551616 + a % 18446744073709551616 + 0) / 18446744073709551616) = a / 9223372036854775808 + (T % 18446744073709551616 + a % 18446744073709551616 + 0) / 18446744073709551616 := wrap_i64 (by omega) (by omega)
      rw [w2, wrap_i64 (by omega) (by omega)]
      omega
    simp only [d1, d3, d4, d5, c4, c5, Bool.and_self, cond_true])
  have e : upTo l l.length = l.sum := by unfold upTo; rw [List.take_length]
  have hb := upTo_bound ha l.length (Nat.le_refl _)
  unfold money_Sum.f money_Sum.l4
  have h0 : ((0 : Int), ((0 : Int), (l, ((l.length : Int), (0 : Int))))) = (upTo l 0 / 18446744073709551616, (upTo l 0 % 18446744073709551616, (l, ((l.length : Int), ((0 : Nat) : Int))))) := rfl
  rw [h0, h, e, rounds_end (r := (l.sum / 18446744073709551616, l.sum % 18446744073709551616)) (by simp [money_Sum.t4])]
  rw [e] at hb
  simp only [Option.bind_some]
  unfold sumS
  generalize l.sum = s at hb ⊢
  have hw := wrap_back (n := s % 18446744073709551616) (by omega) (by omega)
  rw [hw, Int.fdiv_eq_ediv_of_nonneg _ (by omega)]
  by_cases hf : fits s = true
  · have hf' := hf
    simp only [fits, Bool.and_eq_true, decide_eq_true_eq] at hf'
    rw [hf]
    by_cases hn : s % 18446744073709551616 ≥ 9223372036854775808
    · rw [if_pos hn]
      have e : (s / 18446744073709551616 != (s % 18446744073709551616 - 18446744073709551616) / 9223372036854775808) = false := by simp; omega
      have e2 : s % 18446744073709551616 - 18446744073709551616 = s := by omega
      rw [e, e2]; rfl
    · rw [if_neg hn]
      have e : (s / 18446744073709551616 != s % 18446744073709551616 / 9223372036854775808) = false := by simp; omega
      have e2 : s % 18446744073709551616 = s := by omega
      rw [e, e2]; rfl
  · have hf' := hf
    simp only [fits, Bool.and_eq_true, decide_eq_true_eq] at hf'
    rw [Bool.eq_false_iff.mpr hf]
    by_cases hn : s % 18446744073709551616 ≥ 9223372036854775808
    · rw [if_pos hn]
      have e : (s / 18446744073709551616 != (s % 18446744073709551616 - 18446744073709551616) / 9223372036854775808) = true := by simp; omega
      rw [e]; rfl
    · rw [if_neg hn]
      have e : (s / 18446744073709551616 != s % 18446744073709551616 / 9223372036854775808) = true := by simp; omega
      rw [e]; rfl
/-! ### the document's answer: those above and those below, one by one -/
def ups (l : List Int) : List Int := l.filter fun a => decide (0 ≤ a)
def downs (l : List Int) : List Int := l.filter fun a => !decide (0 ≤ a)
theorem ups_len (l : List Int) : (ups l).length ≤ l.length := List.length_filter_le _ _
theorem downs_len (l : List Int) : (downs l).length ≤ l.length := List.length_filter_le _ _
theorem ups_sum : ∀ l : List Int, (ups l).sum + (downs l).sum = l.sum
  | [] => rfl
  | a :: l => by
    have ih := ups_sum l
    unfold ups downs at *
    by_cases h : 0 ≤ a
    · simp [h]; omega
    · simp [h]; omega
theorem split_is {l : List Int} (hs : l.length ≤ 17592186044415) : bursarref01_Sum.l4 (l, ((0 : Int), ([], []))) = some (ups l, downs l) := by
  have h := rounds_to (t := bursarref01_Sum.t4) (fun i => (l, ((i : Int), (ups (l.take i), downs (l.take i))))) l.length (fun i hi => by
    have h2 := wrap_up (n := i) (by omega)
    have hu := ups_len (l.take i)
    have hd := downs_len (l.take i)
    rw [List.length_take] at hu hd
    have d1 : (decide ((i : Int) < (l.length : Int))) = true := decide_eq_true (by omega)
    have d3 : decide ((0 : Int) ≤ (i : Int)) = true := decide_eq_true (by omega)
    simp only [bursarref01_Sum.t4, Int.toNat_natCast, h2, d1, d3, Bool.and_self, cond_true]
    rw [take_up 0 hi]
    obtain ⟨a, hg⟩ : ∃ a, l.getD i 0 = a := ⟨_, rfl⟩
    simp only [hg]
    unfold ups at hu ⊢
    unfold downs at hd ⊢
    rw [List.filter_append, List.filter_append]
    have b1 : Nat.ble ((List.length ((l.take i).filter fun a => decide (0 ≤ a)) + List.length [a]) * 8) 140737488355328 = true := Nat.ble_eq_true_of_le (by simp only [List.length_cons, List.length_nil]; omega)
    have b2 : Nat.ble (List.length ((l.take i).filter fun a => decide (0 ≤ a)) + List.length [a]) 140737488355328 = true := Nat.ble_eq_true_of_le (by simp only [List.length_cons, List.length_nil]; omega)
    have b3 : Nat.ble ((List.length ((l.take i).filter fun a => !decide (0 ≤ a)) + List.length [a]) * 8) 140737488355328 = true := Nat.ble_eq_true_of_le (by simp only [List.length_cons, List.length_nil]; omega)
    have b4 : Nat.ble (List.length ((l.take i).filter fun a => !decide (0 ≤ a)) + List.length [a]) 140737488355328 = true := Nat.ble_eq_true_of_le (by simp only [List.length_cons, List.length_nil]; omega)
    rw [b1, b2, b3, b4]
    by_cases h : 0 ≤ a <;> simp [h])
  unfold bursarref01_Sum.l4
  have h0 : (l, ((0 : Int), (([] : List Int), ([] : List Int)))) = (l, (((0 : Nat) : Int), (ups (l.take 0), downs (l.take 0)))) := rfl
  rw [h0, h, List.take_length, rounds_end (r := (ups l, downs l)) (by simp [bursarref01_Sum.t4])]
open bursarref01_Sum in
theorem sum_end {u d : List Int} {s : Int} {i k : Nat} (h1 : u.length ≤ i) (h2 : d.length ≤ k) : t8 (u, (d, (s, ((i : Int), (k : Int))))) = some (.inr (.inr s)) := by
  have d1 : decide ((i : Int) < (u.length : Int)) = false := decide_eq_false (by omega)
  have d2 : decide ((k : Int) < (d.length : Int)) = false := decide_eq_false (by omega)
  simp only [t8, l8_0, d1, d2, cond_false, Option.bind_some]
open bursarref01_Sum in
theorem sum_up {u d : List Int} {s : Int} {i k : Nat} (h1 : i < u.length) (hu : u.length ≤ 4611686018427387904) (h2 : d.length ≤ k ∨ s < 0) (ha : 0 ≤ u.getD i 0 ∧ u.getD i 0 ≤ 9223372036854775807) (hs : -9223372036854775808 ≤ s ∧ s ≤ 9223372036854775807) :
    t8 (u, (d, (s, ((i : Int), (k : Int))))) = some (bif decide (s + u.getD i 0 ≤ 9223372036854775807) then .inl (u, (d, (s + u.getD i 0, (((i + 1 : Nat) : Int), (k : Int))))) else .inr (.inl (0, false))) := by
  have w := wrap_up (n := i) (by omega)
  have d1 : decide ((i : Int) < (u.length : Int)) = true := decide_eq_true (by omega)
  have d2 : decide ((0 : Int) ≤ (i : Int)) = true := decide_eq_true (by omega)
  have e4 : l8_4 (u, (d, (s, ((i : Int), (k : Int))))) = some (u, (d, (s, ((i : Int), ((k : Int), true))))) := by
    unfold l8_4
    rcases h2 with h2 | h2
    · simp only [show decide (((k : Int)) ≥ (d.length : Int)) = true from decide_eq_true (by omega), cond_true]
    · simp only [d1, show decide (s < 0) = true from decide_eq_true h2]
      cases decide (((k : Int)) ≥ (d.length : Int)) <;> rfl
  have e5 : l8_5 (u, (d, (s, ((i : Int), ((k : Int), true))))) = some (u, (d, (s, (((i + 1 : Nat) : Int), ((k : Int), u.getD i 0))))) := by
    simp only [l8_5, Int.toNat_natCast, w, d1, d2, Bool.and_self, cond_true]
  simp only [t8, l8_0, d1, cond_true, Option.bind_some, e4, e5]
  generalize u.getD i 0 = a at ha
  have w1 : IntKind.wrap .i64 (9223372036854775807 - a) = 9223372036854775807 - a := wrap_i64 (by omega) (by omega)
  have nlt : decide (a < 0) = false := decide_eq_false (by omega)
  by_cases hx : s + a ≤ 9223372036854775807
  · have w2 : IntKind.wrap .i64 (s + a) = s + a := wrap_i64 (by omega) (by omega)
    have n2 : decide (s > 9223372036854775807 - a) = false := decide_eq_false (by omega)
    simp only [l8_10, w1, nlt, n2, decide_eq_true hx]
    cases decide (a > 0) <;> simp [w2]
  · have p1 : decide (a > 0) = true := decide_eq_true (by omega)
    have p2 : decide (s > 9223372036854775807 - a) = true := decide_eq_true (by omega)
    simp only [l8_10, w1, nlt, p1, p2, decide_eq_false hx]
    rfl
open bursarref01_Sum in
theorem sum_down {u d : List Int} {s : Int} {i k : Nat} (h1 : k < d.length) (hd : d.length ≤ 4611686018427387904) (h2 : ¬ (i < u.length ∧ s < 0)) (ha : -9223372036854775808 ≤ d.getD k 0 ∧ d.getD k 0 < 0) (hs : -9223372036854775808 ≤ s ∧ s ≤ 9223372036854775807) :
    t8 (u, (d, (s, ((i : Int), (k : Int))))) = some (bif decide (-9223372036854775808 ≤ s + d.getD k 0) then .inl (u, (d, (s + d.getD k 0, ((i : Int), ((k + 1 : Nat) : Int))))) else .inr (.inl (0, false))) := by
  have w := wrap_up (n := k) (by omega)
  have d1 : decide ((k : Int) < (d.length : Int)) = true := decide_eq_true (by omega)
  have d2 : decide ((0 : Int) ≤ (k : Int)) = true := decide_eq_true (by omega)
  have d3 : decide ((k : Int) ≥ (d.length : Int)) = false := decide_eq_false (by omega)
  have e0 : l8_0 (u, (d, (s, ((i : Int), (k : Int))))) = some (u, (d, (s, ((i : Int), ((k : Int), true))))) := by
    simp only [l8_0, d1]
    cases decide ((i : Int) < (u.length : Int)) <;> rfl
  have e4 : l8_4 (u, (d, (s, ((i : Int), (k : Int))))) = some (u, (d, (s, ((i : Int), ((k : Int), false))))) := by
    simp only [l8_4, d3]
    by_cases hi : i < u.length
    · rw [show decide (s < 0) = false from decide_eq_false fun h => h2 ⟨hi, h⟩]
      cases decide ((i : Int) < (u.length : Int)) <;> rfl
    · rw [show decide ((i : Int) < (u.length : Int)) = false from decide_eq_false (by omega)]; rfl
  have e5 : l8_5 (u, (d, (s, ((i : Int), ((k : Int), false))))) = some (u, (d, (s, ((i : Int), (((k + 1 : Nat) : Int), d.getD k 0))))) := by
    simp only [l8_5, Int.toNat_natCast, w, d1, d2, Bool.and_self, cond_true, cond_false]
  simp only [t8, e0, cond_true, Option.bind_some, e4, e5]
  generalize d.getD k 0 = a at ha
  have w1 : IntKind.wrap .i64 (-9223372036854775808 - a) = -9223372036854775808 - a := wrap_i64 (by omega) (by omega)
  have ngt : decide (a > 0) = false := decide_eq_false (by omega)
  have plt : decide (a < 0) = true := decide_eq_true (by omega)
  by_cases hx : -9223372036854775808 ≤ s + a
  · have w2 : IntKind.wrap .i64 (s + a) = s + a := wrap_i64 (by omega) (by omega)
    have n2 : decide (s < -9223372036854775808 - a) = false := decide_eq_false (by omega)
    simp only [l8_10, w1, ngt, plt, n2, decide_eq_true hx, cond_false, cond_true, Option.bind_some, w2]
  · have p2 : decide (s < -9223372036854775808 - a) = true := decide_eq_true (by omega)
    simp only [l8_10, w1, ngt, plt, p2, decide_eq_false hx, cond_false, cond_true, Option.bind_some]
theorem drop_sum {l : List Int} {i : Nat} (h : i < l.length) : (l.drop i).sum = l.getD i 0 + (l.drop (i + 1)).sum := by
  rw [List.drop_eq_getElem_cons h, List.sum_cons, getD_at h]
theorem nonneg_sum : ∀ {l : List Int}, (∀ a ∈ l, 0 ≤ a) → 0 ≤ l.sum
  | [], _ => by simp
  | a :: l, h => by
    have := nonneg_sum (l := l) fun b hb => h b (List.mem_cons_of_mem _ hb)
    have := h a List.mem_cons_self
    rw [List.sum_cons]; omega
theorem neg_sum : ∀ {l : List Int}, (∀ a ∈ l, a < 0) → l.sum ≤ 0
  | [], _ => by simp
  | a :: l, h => by
    have := neg_sum (l := l) fun b hb => h b (List.mem_cons_of_mem _ hb)
    have := h a List.mem_cons_self
    rw [List.sum_cons]; omega
theorem mix_is {u d : List Int} (hu : u.length ≤ 4611686018427387904) (hd : d.length ≤ 4611686018427387904) (hua : ∀ a ∈ u, 0 ≤ a ∧ a ≤ 9223372036854775807) (hda : ∀ a ∈ d, -9223372036854775808 ≤ a ∧ a < 0) (m : Nat) :
    ∀ (i k : Nat) (s : Int), u.length - i + (d.length - k) = m → -9223372036854775808 ≤ s ∧ s ≤ 9223372036854775807 →
      bursarref01_Sum.l8 (u, (d, (s, ((i : Int), (k : Int))))) = some (bif fits (s + (u.drop i).sum + (d.drop k).sum) then .inr (s + (u.drop i).sum + (d.drop k).sum) else .inl (0, false)) := by
  have un : ∀ i, 0 ≤ (u.drop i).sum := fun i => nonneg_sum fun a ha => (hua a (List.mem_of_mem_drop ha)).1
  have dn : ∀ k, (d.drop k).sum ≤ 0 := fun k => neg_sum fun a ha => (hda a (List.mem_of_mem_drop ha)).2
  induction m with
  | zero =>
    intro i k s hm hs
    unfold bursarref01_Sum.l8
    rw [rounds_end (sum_end (by omega) (by omega)), List.drop_eq_nil_of_le (by omega), List.drop_eq_nil_of_le (by omega)]
    simp [fits, hs.1, hs.2]
  | succ m ih =>
    intro i k s hm hs
    unfold bursarref01_Sum.l8 at ih ⊢
    by_cases hc : i < u.length ∧ (d.length ≤ k ∨ s < 0)
    · obtain ⟨h1, h2⟩ := hc
      have ha := hua (u.getD i 0) (by rw [getD_at h1]; exact List.getElem_mem h1)
      have h := sum_up h1 hu h2 ha hs
      rw [drop_sum h1]
      have un' := un (i + 1)
      generalize hg : u.getD i 0 = a at ha h ⊢
      by_cases hx : s + a ≤ 9223372036854775807
      · rw [decide_eq_true hx, cond_true] at h
        rw [rounds_next h, ih (i + 1) k (s + a) (by omega) (by omega)]
        have e : s + a + (u.drop (i + 1)).sum + (d.drop k).sum = s + (a + (u.drop (i + 1)).sum) + (d.drop k).sum := by omega
        rw [e]
      · rw [decide_eq_false hx, cond_false] at h
        have h3 : d.length ≤ k := by rcases h2 with h2 | h2 <;> omega
        have e : (d.drop k).sum = 0 := by rw [List.drop_eq_nil_of_le h3]; rfl
        have nf : fits (s + (a + (u.drop (i + 1)).sum) + (d.drop k).sum) = false := by
          rw [e]
          unfold fits
          rw [decide_eq_false (p := s + (a + (u.drop (i + 1)).sum) + 0 ≤ 9223372036854775807) (by omega), Bool.and_false]
        rw [rounds_end h, nf]; rfl
    · have h1 : k < d.length := by
        by_cases hi : i < u.length
        · by_cases hk : k < d.length
          · exact hk
          · exact absurd ⟨hi, .inl (by omega)⟩ hc
        · omega
      have h2 : ¬ (i < u.length ∧ s < 0) := fun h => hc ⟨h.1, .inr h.2⟩
      have ha := hda (d.getD k 0) (by rw [getD_at h1]; exact List.getElem_mem h1)
      have h := sum_down h1 hd h2 ha hs
      rw [drop_sum h1]
      have dn' := dn (k + 1)
      generalize hg : d.getD k 0 = a at ha h ⊢
      by_cases hx : -9223372036854775808 ≤ s + a
      · rw [decide_eq_true hx, cond_true] at h
        rw [rounds_next h, ih i (k + 1) (s + a) (by omega) (by omega)]
        have e : s + a + (u.drop i).sum + (d.drop (k + 1)).sum = s + (u.drop i).sum + (a + (d.drop (k + 1)).sum) := by omega
        rw [e]
      · rw [decide_eq_false hx, cond_false] at h
        have h3 : u.length ≤ i := by
          by_cases hi : i < u.length
          · have : ¬ s < 0 := fun hs => h2 ⟨hi, hs⟩
            omega
          · omega
        have e : (u.drop i).sum = 0 := by rw [List.drop_eq_nil_of_le h3]; rfl
        have nf : fits (s + (u.drop i).sum + (a + (d.drop (k + 1)).sum)) = false := by
          rw [e]
          unfold fits
          rw [decide_eq_false (p := -9223372036854775808 ≤ s + 0 + (a + (d.drop (k + 1)).sum)) (by omega), Bool.false_and]
        rw [rounds_end h, nf]; rfl
/-- the document's sum -/
def sumR (n : Int) : Int × Bool := bif fits n then (n, true) else (0, false)
theorem ref_Sum_is {l : List Int} (hs : l.length ≤ 17592186044415) (ha : Amounts l) : bursarref01_Sum.f l = some (sumR l.sum) := by
  have hu := ups_len l
  have hd := downs_len l
  have h := mix_is (u := ups l) (d := downs l) (by omega) (by omega) (fun a h => by
    have h' := List.mem_filter.1 h
    have := ha a h'.1
    have := h'.2
    simp only [decide_eq_true_eq] at this
    omega) (fun a h => by
    have h' := List.mem_filter.1 h
    have := ha a h'.1
    have := h'.2
    simp at this
    omega) _ 0 0 0 rfl (by omega)
  unfold bursarref01_Sum.f
  rw [split_is hs, Option.bind_some]
  rw [show ((0 : Nat) : Int) = 0 from rfl] at h
  rw [h, Option.bind_some, List.drop_zero, List.drop_zero, show 0 + (ups l).sum + (downs l).sum = l.sum by have := ups_sum l; omega]
  unfold sumR
  cases fits l.sum <;> rfl
end Go.Proofs.YtnnebljljmpdkaaDoor
end
section
/- The Go function money.Sub, as a Lean function, and that it is this one. Written by a program of this session. -/
set_option linter.unusedVariables false
set_option maxRecDepth 100000
namespace Go.Proofs.YtnnebljljmpdkaaDoor
open Go Go.Fw
abbrev money_Sub.As : Shs := (.cons (.x (.i .i64)) (.cons (.x (.i .i64)) .nil))
abbrev money_Sub.m : Back := [(false, (.i .i64)), (false, (.i .i64))]
noncomputable abbrev money_Sub.H : HK := hk P G0 E0 J0 [] noLoops 4
theorem money_Sub.rows : TabOK P G0 (tabF []) := rows_ok (ws := []) trivial
theorem money_Sub.hok : HKOK P money_Sub.H := hk_ok e0_ok j0_ok money_Sub.rows (fun g n => noLoops_ok g n) 4
noncomputable def money_Sub.f (a : (Int × Int)) : Option (Int × Int) := (bif (!((decide ((a.1 < (0 : Int)))) == (decide ((a.2 < (0 : Int)))))) then (bif (!((decide (((IntKind.wrap .i64 (a.1 - a.2)) < (0 : Int)))) == (decide ((a.1 < (0 : Int)))))) then (some ((0 : Int), (2 : Int))) else (some ((IntKind.wrap .i64 (a.1 - a.2)), (0 : Int)))) else (some ((IntKind.wrap .i64 (a.1 - a.2)), (0 : Int))))
theorem money_Sub.ok : ∀ a : Vals money_Sub.As.tys, fnK P money_Sub.H (lp []) 22 money_Sub.As money_Sub.m a some = money_Sub.f a := fun a => by kernel_rfl
noncomputable abbrev money_Sub.row : Row := fnRow 22 money_Sub.As money_Sub.m money_Sub.f
theorem money_Sub.row_ok : RowOK P G0 money_Sub.row := row_told money_Sub.hok (lp_of (l := []) trivial) (fun _ => rfl) money_Sub.ok
end Go.Proofs.YtnnebljljmpdkaaDoor
end
section
/- The Go function money.size, as a Lean function, and that it is this one. Written by a program of this session. -/
set_option linter.unusedVariables false
set_option maxRecDepth 100000
namespace Go.Proofs.YtnnebljljmpdkaaDoor
open Go Go.Fw
abbrev money_size.As : Shs := (.cons (.x (.i .i64)) .nil)
abbrev money_size.m : Back := [(false, (.i .u64))]
noncomputable abbrev money_size.H : HK := hk P G0 E0 J0 [] noLoops 4
theorem money_size.rows : TabOK P G0 (tabF []) := rows_ok (ws := []) trivial
theorem money_size.hok : HKOK P money_size.H := hk_ok e0_ok j0_ok money_size.rows (fun g n => noLoops_ok g n) 4
noncomputable def money_size.f (a : Int) : Option Int := (bif (decide ((a < (0 : Int)))) then (some (IntKind.wrap .u64 ((0 : Int) - (IntKind.wrap .u64 a)))) else (some (IntKind.wrap .u64 a)))
theorem money_size.ok : ∀ a : Vals money_size.As.tys, fnK P money_size.H (lp []) 51 money_size.As money_size.m a some = money_size.f a := fun a => by kernel_rfl
noncomputable abbrev money_size.row : Row := fnRow 51 money_size.As money_size.m money_size.f
theorem money_size.row_ok : RowOK P G0 money_size.row := row_told money_size.hok (lp_of (l := []) trivial) (fun _ => rfl) money_size.ok
end Go.Proofs.YtnnebljljmpdkaaDoor
end
section
/- The Go function money.signed, as a Lean function, and that it is this one. Written by a program of this session. -/
set_option linter.unusedVariables false
set_option maxRecDepth 100000
namespace Go.Proofs.YtnnebljljmpdkaaDoor
open Go Go.Fw
abbrev money_signed.As : Shs := (.cons (.x (.i .u64)) (.cons (.x .b) .nil))
abbrev money_signed.m : Back := [(false, (.i .i64)), (false, (.i .i64))]
noncomputable abbrev money_signed.H : HK := hk P G0 E0 J0 [] noLoops 4
theorem money_signed.rows : TabOK P G0 (tabF []) := rows_ok (ws := []) trivial
theorem money_signed.hok : HKOK P money_signed.H := hk_ok e0_ok j0_ok money_signed.rows (fun g n => noLoops_ok g n) 4
noncomputable def money_signed.f (a : (Int × Bool)) : Option (Int × Int) := (bif a.2 then (bif (decide ((a.1 ≤ (9223372036854775808 : Int)))) then (some ((IntKind.wrap .i64 (IntKind.wrap .u64 ((0 : Int) - a.1))), (0 : Int))) else (bif (!a.2) then (bif (decide ((a.1 ≤ (9223372036854775807 : Int)))) then (some ((IntKind.wrap .i64 a.1), (0 : Int))) else (some ((0 : Int), (2 : Int)))) else (some ((0 : Int), (2 : Int))))) else (bif (!a.2) then (bif (decide ((a.1 ≤ (9223372036854775807 : Int)))) then (some ((IntKind.wrap .i64 a.1), (0 : Int))) else (some ((0 : Int), (2 : Int)))) else (some ((0 : Int), (2 : Int)))))
theorem money_signed.ok : ∀ a : Vals money_signed.As.tys, fnK P money_signed.H (lp []) 65 money_signed.As money_signed.m a some = money_signed.f a := fun a => by kernel_rfl
noncomputable abbrev money_signed.row : Row := fnRow 65 money_signed.As money_signed.m money_signed.f
theorem money_signed.row_ok : RowOK P G0 money_signed.row := row_told money_signed.hok (lp_of (l := []) trivial) (fun _ => rfl) money_signed.ok
end Go.Proofs.YtnnebljljmpdkaaDoor
end
section
/- The Go function bursarref01.Sub, as a Lean function, and that it is this one. Written by a program of this session. -/
set_option linter.unusedVariables false
set_option maxRecDepth 100000
namespace Go.Proofs.YtnnebljljmpdkaaDoor
open Go Go.Fw
abbrev bursarref01_Sub.As : Shs := (.cons (.x (.i .i64)) (.cons (.x (.i .i64)) .nil))
abbrev bursarref01_Sub.m : Back := [(false, (.i .i64)), (false, .b)]
noncomputable abbrev bursarref01_Sub.H : HK := hk P G0 E0 J0 [bursarref01_Sum.row] noLoops 4
theorem bursarref01_Sub.rows : TabOK P G0 (tabF [bursarref01_Sum.row]) := rows_ok (ws := [bursarref01_Sum.row]) ⟨bursarref01_Sum.row_ok, trivial⟩
theorem bursarref01_Sub.hok : HKOK P bursarref01_Sub.H := hk_ok e0_ok j0_ok bursarref01_Sub.rows (fun g n => noLoops_ok g n) 4
noncomputable def bursarref01_Sub.f (a : (Int × Int)) : Option (Int × Bool) := (bif (a.2 == (-9223372036854775808 : Int)) then (bif (decide ((a.1 ≥ (0 : Int)))) then (some ((0 : Int), false)) else (some ((IntKind.wrap .i64 ((IntKind.wrap .i64 (a.1 + (9223372036854775807 : Int))) + (1 : Int))), true))) else (((bursarref01_Sum.f (a.1 :: ((IntKind.wrap .i64 ((0 : Int) - a.2)) :: [])))).bind fun (x2 : (Int × Bool)) => (some x2)))
theorem bursarref01_Sub.ok : ∀ a : Vals bursarref01_Sub.As.tys, fnK P bursarref01_Sub.H (lp []) 8 bursarref01_Sub.As bursarref01_Sub.m a some = bursarref01_Sub.f a := fun a => by kernel_rfl
noncomputable abbrev bursarref01_Sub.row : Row := fnRow 8 bursarref01_Sub.As bursarref01_Sub.m bursarref01_Sub.f
theorem bursarref01_Sub.row_ok : RowOK P G0 bursarref01_Sub.row := row_told bursarref01_Sub.hok (lp_of (l := []) trivial) (fun _ => rfl) bursarref01_Sub.ok
end Go.Proofs.YtnnebljljmpdkaaDoor
end
section
/- Sum, difference and product of amounts: what the code and the document's answer compute. By this session. -/
set_option linter.unusedVariables false
set_option linter.unusedSimpArgs false
namespace Go.Proofs.YtnnebljljmpdkaaDoor
open Go Go.Fw
theorem bounds_u8 {n : Int} (h : (Lit.int .u8 n).wf = true) : 0 ≤ n ∧ n ≤ 255 := by
  simp [Lit.wf, IntKind.min, IntKind.max, IntKind.signed, IntKind.bits] at h
  omega
theorem bounds_u16 {n : Int} (h : (Lit.int .u16 n).wf = true) : 0 ≤ n ∧ n ≤ 65535 := by
  simp [Lit.wf, IntKind.min, IntKind.max, IntKind.signed, IntKind.bits] at h
  omega
theorem fits_iff {n : Int} : fits n = true ↔ Am n := by simp [fits, Am]
theorem fits_of {n : Int} (h : Am n) : fits n = true := fits_iff.2 h
theorem fits_not {n : Int} (h : ¬ Am n) : fits n = false := by
  cases hf : fits n with
  | false => rfl
  | true => exact absurd (fits_iff.1 hf) h
theorem sumS_of {n : Int} (h : Am n) : sumS n = (n, 0) := by simp [sumS, fits_of h]
theorem sumS_not {n : Int} (h : ¬ Am n) : sumS n = (0, 2) := by simp [sumS, fits_not h]
theorem am_cons {a : Int} {l : List Int} (h : Am a) (hl : Amounts l) : Amounts (a :: l) := by
  intro b hb
  rcases List.mem_cons.1 hb with rfl | hb
  · exact h
  · exact hl b hb
theorem am_nil : Amounts [] := fun a h => by cases h
theorem money_Sub_is {a b : Int} (ha : Am a) (hb : Am b) : money_Sub.f (a, b) = some (sumS (a - b)) := by
  obtain ⟨h1, h2⟩ := ha
  obtain ⟨h3, h4⟩ := hb
  unfold money_Sub.f
  simp only [IntKind.wrap_i64]
  by_cases hf : Am (a - b)
  · rw [sumS_of hf]
    obtain ⟨h5, h6⟩ := hf
    have e : (a - b + 9223372036854775808) % 18446744073709551616 - 9223372036854775808 = a - b := by omega
    rw [e]
    by_cases c1 : a < 0 <;> by_cases c2 : b < 0 <;> by_cases c3 : a - b < 0 <;> simp [c1, c2, c3] <;> omega
  · rw [sumS_not hf]
    have hf' : a - b < -9223372036854775808 ∨ 9223372036854775807 < a - b := by unfold Am at hf; omega
    obtain ⟨m, hm⟩ : ∃ m, (a - b + 9223372036854775808) % 18446744073709551616 - 9223372036854775808 = m := ⟨_, rfl⟩
    rw [hm]
    have c1 : (decide (a < 0) == decide (b < 0)) = false := by
      by_cases c1 : a < 0 <;> by_cases c2 : b < 0 <;> simp [c1, c2] <;> omega
    have c2 : (decide (m < 0) == decide (a < 0)) = false := by
      by_cases c1 : a < 0 <;> by_cases c2 : m < 0 <;> simp [c1, c2] <;> omega
    simp [c1, c2]
/-- is an answer the document's? -/
def Told (r : Int × Bool) (n : Int) : Prop := r.2 = fits n ∧ (fits n = true → r.1 = n)
theorem told_sumR (n : Int) : Told (sumR n) n := by
  unfold Told sumR
  cases fits n <;> simp
theorem ref_Sub_is {a b : Int} (ha : Am a) (hb : Am b) : ∃ r, bursarref01_Sub.f (a, b) = some r ∧ Told r (a - b) := by
  obtain ⟨h1, h2⟩ := ha
  obtain ⟨h3, h4⟩ := hb
  unfold bursarref01_Sub.f
  by_cases hm : b = -9223372036854775808
  · subst hm
    by_cases c : a ≥ 0
    · refine ⟨(0, false), by simp [c], ?_⟩
      have : ¬ Am (a - -9223372036854775808) := by unfold Am; omega
      exact ⟨(fits_not this).symm, fun h => by rw [fits_not this] at h; cases h⟩
    · have hf : Am (a - -9223372036854775808) := by unfold Am; omega
      refine ⟨(a + 9223372036854775808, true), ?_, (fits_of hf).symm, fun _ => by omega⟩
      simp only [c, decide_false, cond_false, beq_self_eq_true, cond_true]
      rw [show IntKind.wrap .i64 (a + 9223372036854775807) = a + 9223372036854775807 from wrap_i64 (by omega) (by omega), wrap_i64 (by omega) (by omega)]
      congr 2; omega
  · refine ⟨sumR (a - b), ?_, told_sumR _⟩
    have e : (b == -9223372036854775808) = false := by simpa using hm
    simp only [e, cond_false]
    rw [wrap_i64 (by omega) (by omega), ref_Sum_is (by simp) (am_cons ⟨h1, h2⟩ (am_cons (by unfold Am; omega) am_nil))]
    simp only [Option.bind_some, List.sum_cons, List.sum_nil]
    congr 2; omega
/-! products -/
theorem and32 {a : Int} (h0 : 0 ≤ a) (h1 : a < 18446744073709551616) : bitsOp .and .u64 a 4294967295 = a % 4294967296 := by
  obtain ⟨n, rfl⟩ : ∃ n : Nat, a = n := ⟨a.toNat, by omega⟩
  have hn : n < 2 ^ 64 := by omega
  have e : (BitVec.ofInt 64 (n : Int) &&& BitVec.ofInt 64 4294967295).toNat = n % 4294967296 := by
    rw [BitVec.toNat_and]
    have e1 : (BitVec.ofInt 64 (n : Int)).toNat = n := by
      rw [BitVec.toNat_ofInt]; simp; omega
    have e2 : (BitVec.ofInt 64 (4294967295 : Int)).toNat = 2 ^ 32 - 1 := by decide
    rw [e1, e2, Nat.and_two_pow_sub_one_eq_mod]
  show IntKind.wrap .u64 (((BitVec.ofInt 64 (n : Int) &&& BitVec.ofInt 64 4294967295).toNat : Nat) : Int) = _
  rw [e, wrap_u64]
  omega
theorem high_lin {A B C D : Int} (hA : 0 ≤ A ∧ A ≤ 18446744065119617025) (hB : 0 ≤ B ∧ B ≤ 18446744065119617025) (hC : 0 ≤ C ∧ C ≤ 18446744065119617025) (hD : 0 ≤ D ∧ D ≤ 18446744065119617025) :
    IntKind.wrap .u64 (IntKind.wrap .u64 (IntKind.wrap .u64 D + (IntKind.wrap .u64 (IntKind.wrap .u64 B + IntKind.wrap .u64 A / 4294967296)) / 4294967296) +
      (IntKind.wrap .u64 ((IntKind.wrap .u64 (IntKind.wrap .u64 B + IntKind.wrap .u64 A / 4294967296)) % 4294967296 + IntKind.wrap .u64 C)) / 4294967296) = (D * 18446744073709551616 + (B + C) * 4294967296 + A) / 18446744073709551616 := by
  simp only [wrap_u64]
  omega
theorem mul_bound {x y b : Int} (h0 : 0 ≤ x) (h1 : x ≤ b) (h2 : 0 ≤ y) (h3 : y ≤ b) : 0 ≤ x * y ∧ x * y ≤ b * b :=
  ⟨Int.mul_nonneg h0 h2, Int.mul_le_mul h1 h3 h2 (by omega)⟩
theorem sizeMoney_is {a : Int} (ha : Am a) : money_size.f a = some (a.natAbs : Int) := by
  obtain ⟨h1, h2⟩ := ha
  unfold money_size.f
  simp only [wrap_u64]
  by_cases c : a < 0
  · simp only [c, decide_true, cond_true]; congr 1; omega
  · simp only [c, decide_false, cond_false]; congr 1; omega
/-! lists -/
theorem am_take {l : List Int} (h : Amounts l) (n : Nat) : Amounts (l.take n) := fun a ha => h a (List.mem_of_mem_take ha)
theorem am_drop {l : List Int} (h : Amounts l) (n : Nat) : Amounts (l.drop n) := fun a ha => h a (List.mem_of_mem_drop ha)
end Go.Proofs.YtnnebljljmpdkaaDoor
end
section
/- Loops that stop at the first place where something is so: plain laws. By this session. -/
set_option linter.unusedVariables false
set_option linter.unusedSimpArgs false
namespace Go.Fw
section
variable {S R : Type} {t : S → Option (S ⊕ R)}
theorem range_none {n k : Nat} {ex : Nat → Option R} (hk : k ≤ n) (h : ∀ j, j < k → ex j = none) : (List.range k).findSome? ex = none := by
  rw [List.findSome?_eq_none_iff]
  intro j hj
  exact h j (List.mem_range.1 hj)
theorem range_some {n k : Nat} {ex : Nat → Option R} {r : R} (hk : k < n) (h : ∀ j, j < k → ex j = none) (hr : ex k = some r) : (List.range n).findSome? ex = some r := by
  have e : List.range n = List.range k ++ k :: (List.range (n - k - 1)).map (· + (k + 1)) := by
    have h1 : n = k + (1 + (n - k - 1)) := by omega
    rw [h1, List.range_add, List.range_add]
    simp
    intro a _
    omega
  rw [e, List.findSome?_append, range_none (Nat.le_refl k) h]
  simp [hr]
/-- rounds that go on till something is so -/
theorem rounds_first (st : Nat → S) (ex : Nat → Option R) (fin : R) (n : Nat) (h : ∀ i, i < n → (∀ j, j < i → ex j = none) → t (st i) = some (match ex i with | some r => .inr r | none => .inl (st (i + 1))))
    (hf : (∀ j, j < n → ex j = none) → t (st n) = some (.inr fin)) : rounds t (st 0) = some (((List.range n).findSome? ex).getD fin) := by
  have go : ∀ k, k ≤ n → (∀ j, j < k → ex j = none) → rounds t (st 0) = rounds t (st k) := by
    intro k
    induction k with
    | zero => intro _ _; rfl
    | succ k ih =>
      intro hk hj
      rw [ih (by omega) fun j h => hj j (by omega)]
      have h1 := h k (by omega) fun j h => hj j (by omega)
      rw [hj k (by omega)] at h1
      exact rounds_next h1
  by_cases ha : ∀ j, j < n → ex j = none
  · rw [go n (Nat.le_refl _) ha, rounds_end (hf ha), range_none (Nat.le_refl n) ha]
    rfl
  · have hex : ∃ k, k < n ∧ (∀ j, j < k → ex j = none) ∧ ∃ r, ex k = some r := by
      clear h hf go
      induction n with
      | zero => exact absurd (fun j hj => by omega) ha
      | succ n ih =>
        by_cases h' : ∀ j, j < n → ex j = none
        · cases hn : ex n with
          | none => exact absurd (fun j hj => by
              by_cases e : j = n
              · rw [e]; exact hn
              · exact h' j (by omega)) ha
          | some r => exact ⟨n, by omega, h', r, hn⟩
        · obtain ⟨k, h1, h2⟩ := ih h'
          exact ⟨k, by omega, h2⟩
    obtain ⟨k, hk, hj, r, hr⟩ := hex
    have h1 := h k hk hj
    rw [hr] at h1
    rw [go k (by omega) hj, rounds_end h1, range_some hk hj hr]
    rfl
/-- .. along a list -/
theorem findSome_range {α : Type} (l : List α) (d : α) (f : α → Option R) : (List.range l.length).findSome? (fun i => f (l.getD i d)) = l.findSome? f := by
  induction l with
  | nil => rfl
  | cons a l ih =>
    rw [List.length_cons, List.range_succ_eq_map, List.findSome?_cons, List.findSome?_cons]
    simp only [List.getD_cons_zero, List.findSome?_map]
    cases f a with
    | some r => rfl
    | none =>
      rw [← ih]
      rfl
theorem rounds_list {α : Type} (l : List α) (d : α) (st : Nat → S) (f : α → Option R) (fin : R) (h : ∀ i, i < l.length → t (st i) = some (match f (l.getD i d) with | some r => .inr r | none => .inl (st (i + 1))))
    (hf : t (st l.length) = some (.inr fin)) : rounds t (st 0) = some ((l.findSome? f).getD fin) := by
  rw [← findSome_range l d f]
  exact rounds_first st (fun i => f (l.getD i d)) fin l.length (fun i hi _ => h i hi) fun _ => hf
/-- rounds over all of a list -/
theorem rounds_map {α β : Type} (l : List α) (d : α) (g : α → β) (st : List β → Nat → S) (out : List β → R) (h : ∀ i, i < l.length → t (st ((l.take i).map g) i) = some (.inl (st ((l.take i).map g ++ [g (l.getD i d)]) (i + 1))))
    (hf : ∀ acc, acc = l.map g → t (st acc l.length) = some (.inr (out acc))) : rounds t (st [] 0) = some (out (l.map g)) := by
  have := rounds_to (t := t) (fun i => st ((l.take i).map g) i) l.length (fun i hi => by
    rw [h i hi, take_up d hi, List.map_append]; rfl)
  simp only [List.take_zero, List.map_nil, List.take_length] at this
  rw [this]
  exact rounds_end (hf _ rfl)
end
theorem ge0' (i : Nat) : decide ((0 : Int) ≤ (i : Int)) = true := decide_eq_true (by omega)
/-- is a place within a list? -/
theorem inb {i n : Nat} (h : i < n) : decide (((i : Nat) : Int) < ((n : Nat) : Int)) = true := decide_eq_true (by omega)
theorem outb (n : Nat) : decide (((n : Nat) : Int) < ((n : Nat) : Int)) = false := decide_eq_false (by omega)
/-- is there one that is not so? -/
theorem find_not {β : Type} {n : Nat} {p : Nat → Bool} {g : Nat → β} : (∃ i, i < n ∧ (List.range n).findSome? (fun i => bif p i then none else some (g i)) = some (g i) ∧ (List.range n).all p = false) ∨ ((List.range n).findSome? (fun i => bif p i then none else some (g i)) = none ∧ (List.range n).all p = true) := by
  cases hq : (List.range n).findSome? (fun i => bif p i then none else some (g i)) with
  | none =>
    right
    refine ⟨rfl, ?_⟩
    rw [List.all_eq_true]
    intro i hi
    have := (List.findSome?_eq_none_iff.1 hq) i hi
    cases hb : p i
    · rw [hb] at this; cases this
    · rfl
  | some r =>
    left
    obtain ⟨i, hi, hr⟩ := List.exists_of_findSome?_eq_some hq
    cases hb : p i <;> rw [hb] at hr
    · injection hr with hr
      refine ⟨i, List.mem_range.1 hi, by rw [hr], ?_⟩
      rw [← Bool.not_eq_true, List.all_eq_true]
      intro h
      rw [h i hi] at hb
      cases hb
    · cases hr
end Go.Fw
end
section
/- Texts as lists of octets; digits of numbers. By this session. -/
set_option linter.unusedVariables false
set_option linter.unusedSimpArgs false
namespace Go.Fw
open Go
theorem eq_bs (s : ByteArray) : s = bs s.data.toList := by cases s; simp [bs]
theorem bs_data (l : List UInt8) : (bs l).data = l.toArray := rfl
theorem bs_list (l : List UInt8) : (bs l).data.toList = l := by simp [bs]
theorem bs_toList (l : List UInt8) : (bs l).toList = l := by rw [ByteArray.toList_eq, bs_list]
theorem bs_size (l : List UInt8) : (bs l).size = l.length := by show (bs l).data.size = _; simp [bs]
theorem bs_append (l r : List UInt8) : bs l ++ bs r = bs (l ++ r) := by
  apply ByteArray.ext
  rw [ByteArray.data_append]
  simp [bs]
theorem bs_extract (l : List UInt8) (i j : Nat) : (bs l).extract i j = bs ((l.take j).drop i) := by
  apply ByteArray.ext
  rw [ByteArray.data_extract]
  apply Array.toList_inj.1
  simp [bs, List.extract_eq_take_drop, List.drop_take]
theorem bt_bs (l : List UInt8) (i : Nat) : bt (bs l) i = ((l.getD i 0).toNat : Int) := by unfold bt; rw [bs_list]
theorem bs_inj {l r : List UInt8} : bs l = bs r ↔ l = r := ⟨fun h => by rw [← bs_list l, h, bs_list], fun h => by rw [h]⟩
theorem texts_eq (x y : ByteArray) : (ByteArray.toList x == ByteArray.toList y) = decide (x = y) := by
  rw [ByteArray.toList_eq, ByteArray.toList_eq, Bool.eq_iff_iff, beq_iff_eq, decide_eq_true_iff]
  constructor
  · intro h
    cases x; cases y
    simp only [Array.toList_inj] at h
    rw [h]
  · intro h; rw [h]
theorem texts_list (x : ByteArray) (l : List UInt8) : (ByteArray.toList x == l) = decide (x = bs l) := by
  rw [← texts_eq, bs_toList]
theorem texts_nil (x : ByteArray) : (ByteArray.toList x == []) = decide (x = bs []) := by
  rw [← texts_eq, bs_toList]
/-- the digit of a number below 10 -/
abbrev dgt (n : Nat) : UInt8 := UInt8.ofNat (48 + n)
theorem dgt_nat {n : Nat} (h : n < 10) : (dgt n).toNat = 48 + n := by simp [dgt, UInt8.toNat_ofNat']; omega
/-- digits, of numbers above 0; of 0 none -/
def decP : Nat → Nat → List UInt8
  | 0, _ => []
  | k + 1, n => if n = 0 then [] else decP k (n / 10) ++ [dgt (n % 10)]
theorem decF_decP : ∀ (k n : Nat), n < 10 ^ (k + 1) → decF (k + 1) n = decP k (n / 10) ++ [dgt (n % 10)]
  | 0, n, h => by
    have h' : n < 10 := by simpa using h
    have hb : Nat.blt n 10 = true := by rw [Nat.blt_eq]; exact h'
    unfold decF decP
    simp only [hb, cond_true, List.nil_append]
    rw [show n % 10 = n by omega]
  | k + 1, n, h => by
    unfold decF decP
    by_cases h' : n < 10
    · have hb : Nat.blt n 10 = true := by rw [Nat.blt_eq]; exact h'
      simp only [hb, cond_true]
      rw [if_pos (by omega), show n % 10 = n by omega]; rfl
    · have hb : Nat.blt n 10 = false := by
        cases hb : Nat.blt n 10
        · rfl
        · rw [Nat.blt_eq] at hb; omega
      simp only [hb, cond_false]
      rw [if_neg (by omega), decF_decP k (n / 10) (by have : 10 ^ (k + 1 + 1) = 10 ^ (k + 1) * 10 := Nat.pow_succ ..; omega)]
theorem decP_len : ∀ (k n : Nat), (decP k n).length ≤ k
  | 0, _ => by simp [decP]
  | k + 1, n => by
    unfold decP
    split
    · simp
    · have := decP_len k (n / 10); simp; omega
theorem decP_dig : ∀ (k n : Nat) (c : UInt8), c ∈ decP k n → 48 ≤ c.toNat ∧ c.toNat ≤ 57
  | 0, _, c, h => by simp [decP] at h
  | k + 1, n, c, h => by
    unfold decP at h
    split at h
    · simp at h
    · rcases List.mem_append.1 h with h | h
      · exact decP_dig k _ c h
      · rw [List.mem_singleton.1 h, dgt_nat (by omega)]; omega
/-- digits are parsed, one by one -/
theorem parse_decP (M : Nat) : ∀ (k n : Nat) (t : List UInt8), n < 10 ^ k → n < 18446744073709551616 → n ≤ M → Lib.parseUintM M 0 (decP k n ++ t) = Lib.parseUintM M n t
  | 0, n, t, h, _, _ => by
    have : n = 0 := by simpa using h
    subst this; rfl
  | k + 1, n, t, h, h2, h3 => by
    unfold decP
    split
    · rename_i h0; subst h0; rfl
    · rw [List.append_assoc, parse_decP M k (n / 10) _ (by have : 10 ^ (k + 1) = 10 ^ k * 10 := Nat.pow_succ ..; omega) (by omega) (by omega)]
      have hd := dgt_nat (n := n % 10) (by omega)
      conv => lhs; unfold Lib.parseUintM
      simp only [List.singleton_append, hd]
      rw [if_pos (by omega), if_neg (by omega), if_neg (by omega)]
      congr 1
      omega
theorem parse_dig {M acc n : Nat} {t : List UInt8} (h : n < 10) (h1 : acc * 10 + n ≤ M) (h2 : acc * 10 < 18446744073709551610) : Lib.parseUintM M acc (dgt n :: t) = Lib.parseUintM M (acc * 10 + n) t := by
  have hd := dgt_nat h
  conv => lhs; unfold Lib.parseUintM
  simp only [hd]
  rw [if_pos (by omega), if_neg (by omega), if_neg (by omega)]
  congr 1
  omega
theorem indexByte_skip (c : UInt8) : ∀ (l t : List UInt8), (∀ x, x ∈ l → x ≠ c) → Lib.indexByte (l ++ c :: t) c = l.length
  | [], t, _ => by simp [Lib.indexByte]
  | x :: l, t, h => by
    have hx : (x == c) = false := by simpa using h x (List.mem_cons_self ..)
    have ih := indexByte_skip c l t fun y hy => h y (List.mem_cons_of_mem _ hy)
    have hn : (Lib.indexByte (l ++ c :: t) c == -1) = false := by rw [ih]; simp only [beq_eq_false_iff_ne]; omega
    rw [List.cons_append, Lib.indexByte, hx]
    rw [if_neg (by simp), if_neg (by simp [hn]), ih]
    simp
theorem indexByte_lt (c : UInt8) : ∀ (l : List UInt8), Lib.indexByte l c < l.length
  | [] => by simp [Lib.indexByte]
  | x :: l => by
    have ih := indexByte_lt c l
    rw [Lib.indexByte]
    split
    · simp
    · split
      · simp; omega
      · simp; omega
end Go.Fw
end
section
/- The Go function entry.ref, as a Lean function, and that it is this one. Written by a program of this session. -/
set_option linter.unusedVariables false
set_option maxRecDepth 100000
namespace Go.Proofs.YtnnebljljmpdkaaDoor
open Go Go.Fw
abbrev entry_ref.As : Shs := (.cons (.x .s) .nil)
abbrev entry_ref.m : Back := [(false, .b)]
noncomputable abbrev entry_ref.H : HK := hk P G0 E0 J0 [] noLoops 4
theorem entry_ref.rows : TabOK P G0 (tabF []) := rows_ok (ws := []) trivial
theorem entry_ref.hok : HKOK P entry_ref.H := hk_ok e0_ok j0_ok entry_ref.rows (fun g n => noLoops_ok g n) 4
noncomputable abbrev entry_ref.shi0 : SSh := ⟨[(1, (.fn 56 .nil)), (2, (.x .b)), (10, (.pt 0 0))], [.it]⟩
noncomputable abbrev entry_ref.osi0 : PEnds := [(.ret, ⟨[(6, (.x (.i .i64)))], []⟩), ((.exit 0), ⟨[], []⟩)]
noncomputable def entry_ref.ti0 (s : (Bool × (ByteArray × Int))) : Option ((Bool × (ByteArray × Int)) ⊕ (Int ⊕ Unit)) := (bif (Nat.blt (Int.toNat s.2.2) s.2.1.size) then (bif (decide ((((runeD s.2.1 (Int.toNat s.2.2)).1 : Int) < (33 : Int)))) then (bif (true == s.1) then (some (.inr (.inl ((Int.toNat s.2.2) : Int)))) else (some (.inl (s.1, (s.2.1, (((Int.toNat s.2.2) + (runeD s.2.1 (Int.toNat s.2.2)).2) : Int)))))) else (bif ((decide ((((runeD s.2.1 (Int.toNat s.2.2)).1 : Int) > (126 : Int)))) == s.1) then (some (.inr (.inl ((Int.toNat s.2.2) : Int)))) else (some (.inl (s.1, (s.2.1, (((Int.toNat s.2.2) + (runeD s.2.1 (Int.toNat s.2.2)).2) : Int))))))) else (some (.inr (.inr ()))))
theorem entry_ref.ti0_ok : ∀ s : Vals entry_ref.shi0.tys, turnK P entry_ref.H (lp []) (bodyAt (codeOf P 86) 3) 0 entry_ref.shi0 entry_ref.osi0 s some = entry_ref.ti0 s := fun s => by kernel_rfl
noncomputable def entry_ref.li0 : (Bool × (ByteArray × Int)) → Option (Int ⊕ Unit) := rounds entry_ref.ti0
noncomputable abbrev entry_ref.L1 : ILp := [(86, 0, [(3, (NodeT.summ ⟨entry_ref.shi0, entry_ref.osi0, entry_ref.li0⟩ 0))])]
theorem entry_ref.L1ok : ILpOK P G0 entry_ref.L1 := ⟨⟨(loop_sum entry_ref.hok (by kernel_rfl) (by kernel_rfl) (l := []) trivial entry_ref.shi0 entry_ref.osi0 (by kernel_rfl) entry_ref.ti0 entry_ref.ti0_ok), trivial⟩, trivial⟩
noncomputable abbrev entry_ref.H1 : HK := hk P G0 E0 J0 [] (ilp entry_ref.L1) 4
theorem entry_ref.hok1 : HKOK P entry_ref.H1 := hk_ok e0_ok j0_ok entry_ref.rows (fun g n => ilp_ok entry_ref.L1ok g n) 4
noncomputable def entry_ref.f (a : ByteArray) : Option Bool := (bif (decide (((a.size : Int) ≤ (20 : Int)))) then (((entry_ref.li0 (true, (a, (0 : Int))))).bind fun (x1 : (Int ⊕ PUnit)) => (match x1 with | .inl x2 => (some (!(decide ((x2 ≥ (0 : Int)))))) | .inr x2 => (some true))) else (some false))
theorem entry_ref.ok : ∀ a : Vals entry_ref.As.tys, fnK P entry_ref.H1 (lp []) 33 entry_ref.As entry_ref.m a some = entry_ref.f a := fun a => by kernel_rfl
noncomputable abbrev entry_ref.row : Row := fnRow 33 entry_ref.As entry_ref.m entry_ref.f
theorem entry_ref.row_ok : RowOK P G0 entry_ref.row := row_told entry_ref.hok1 (lp_of (l := []) trivial) (fun _ => rfl) entry_ref.ok
end Go.Proofs.YtnnebljljmpdkaaDoor
end
section
/- The Go function entry.Check, as a Lean function, and that it is this one. Written by a program of this session. -/
set_option linter.unusedVariables false
set_option maxRecDepth 100000
namespace Go.Proofs.YtnnebljljmpdkaaDoor
open Go Go.Fw
abbrev entry_Check.As : Shs := (.cons (.x T_api_Entry) .nil)
abbrev entry_Check.m : Back := [(false, (.i .i64))]
noncomputable abbrev entry_Check.H : HK := hk P G0 E0 J0 [entry_ref.row, money_Sum.row, chart_May.row] noLoops 4
theorem entry_Check.rows : TabOK P G0 (tabF [entry_ref.row, money_Sum.row, chart_May.row]) := rows_ok (ws := [entry_ref.row, money_Sum.row, chart_May.row]) ⟨entry_ref.row_ok, ⟨money_Sum.row_ok, ⟨chart_May.row_ok, trivial⟩⟩⟩
theorem entry_Check.hok : HKOK P entry_Check.H := hk_ok e0_ok j0_ok entry_Check.rows (fun g n => noLoops_ok g n) 4
noncomputable abbrev entry_Check.shi0 : SSh := ⟨[(0, (.x (.l (.g (.p (.g (.p (.i .i64) .s)) (.i .i64)))))), (1, (.fn 31 (.cons (.pt 2 0) .nil))), (7, (.x (.i .i64))), (8, (.x (.i .i64)))], [.box (.cons (.x (.i .i64)) (.cons (.x .s) (.cons (.x (.l (.g (.p (.g (.p (.i .i64) .s)) (.i .i64))))) .nil))), .mp T_api_Account .b, .box (.cons (.mp 1) .nil)]⟩
noncomputable abbrev entry_Check.osi0 : PEnds := [(.ret, ⟨[(4, (.x (.i .i64)))], [.box (.cons (.x (.i .i64)) (.cons (.x .s) (.cons (.x (.l (.g (.p (.g (.p (.i .i64) .s)) (.i .i64))))) .nil))), .mp T_api_Account .b, .box (.cons (.mp 1) .nil)]⟩), ((.exit 0), ⟨[], [.box (.cons (.x (.i .i64)) (.cons (.x .s) (.cons (.x (.l (.g (.p (.g (.p (.i .i64) .s)) (.i .i64))))) .nil))), .mp T_api_Account .b, .box (.cons (.mp 1) .nil)]⟩)]
noncomputable def entry_Check.ti0 (s : ((List ((Int × ByteArray) × Int)) × (Int × (Int × (Int × (ByteArray × ((List ((Int × ByteArray) × Int)) × (List ((Int × ByteArray) × Bool))))))))) : Option (((List ((Int × ByteArray) × Int)) × (Int × (Int × (Int × (ByteArray × ((List ((Int × ByteArray) × Int)) × (List ((Int × ByteArray) × Bool)))))))) ⊕ ((Int × (Int × (ByteArray × ((List ((Int × ByteArray) × Int)) × (List ((Int × ByteArray) × Bool)))))) ⊕ (Int × (ByteArray × ((List ((Int × ByteArray) × Int)) × (List ((Int × ByteArray) × Bool))))))) := (bif (decide ((s.2.2.1 < s.2.1))) then (bif ((decide (((0 : Int) ≤ s.2.2.1))) && (decide ((s.2.2.1 < ((List.length s.1) : Int))))) then (bif (Ty.keyFit T_api_Account (List.getD s.1 (Int.toNat s.2.2.1) (Ty.dflt T_api_Line)).1) then (bif (Ty.keyFit T_api_Account (List.getD s.1 (Int.toNat s.2.2.1) (Ty.dflt T_api_Line)).1) then (bif (mgetD T_api_Account .b s.2.2.2.2.2.2 (List.getD s.1 (Int.toNat s.2.2.1) (Ty.dflt T_api_Line)).1 false) then (some (.inr (.inl (s.2.2.1, (s.2.2.2.1, (s.2.2.2.2.1, (s.2.2.2.2.2.1, (mput T_api_Account .b s.2.2.2.2.2.2 (List.getD s.1 (Int.toNat s.2.2.1) (Ty.dflt T_api_Line)).1 true)))))))) else (bif ((List.getD s.1 (Int.toNat s.2.2.1) (Ty.dflt T_api_Line)).2 == (0 : Int)) then (some (.inr (.inl (s.2.2.1, (s.2.2.2.1, (s.2.2.2.2.1, (s.2.2.2.2.2.1, (mput T_api_Account .b s.2.2.2.2.2.2 (List.getD s.1 (Int.toNat s.2.2.1) (Ty.dflt T_api_Line)).1 true)))))))) else (((chart_May.f (List.getD s.1 (Int.toNat s.2.2.1) (Ty.dflt T_api_Line)).1)).bind fun (x7 : Bool) => (bif (!x7) then (some (.inr (.inl (s.2.2.1, (s.2.2.2.1, (s.2.2.2.2.1, (s.2.2.2.2.2.1, (mput T_api_Account .b s.2.2.2.2.2.2 (List.getD s.1 (Int.toNat s.2.2.1) (Ty.dflt T_api_Line)).1 true)))))))) else (some (.inl (s.1, (s.2.1, ((IntKind.wrap .i64 (s.2.2.1 + (1 : Int))), (s.2.2.2.1, (s.2.2.2.2.1, (s.2.2.2.2.2.1, (mput T_api_Account .b s.2.2.2.2.2.2 (List.getD s.1 (Int.toNat s.2.2.1) (Ty.dflt T_api_Line)).1 true))))))))))))) else none) else none) else none) else (some (.inr (.inr s.2.2.2))))
theorem entry_Check.ti0_ok : ∀ s : Vals entry_Check.shi0.tys, turnK P entry_Check.H (lp []) (bodyAt (codeOf P 25) 3) 3 entry_Check.shi0 entry_Check.osi0 s some = entry_Check.ti0 s := fun s => by kernel_rfl
noncomputable def entry_Check.li0 : ((List ((Int × ByteArray) × Int)) × (Int × (Int × (Int × (ByteArray × ((List ((Int × ByteArray) × Int)) × (List ((Int × ByteArray) × Bool)))))))) → Option ((Int × (Int × (ByteArray × ((List ((Int × ByteArray) × Int)) × (List ((Int × ByteArray) × Bool)))))) ⊕ (Int × (ByteArray × ((List ((Int × ByteArray) × Int)) × (List ((Int × ByteArray) × Bool)))))) := rounds entry_Check.ti0
noncomputable abbrev entry_Check.shi1 : SSh := ⟨[(0, (.yd 5 [5] (.cons (.pt 3 0) .nil) [46] (rfA P 18 0) (rfB P 18 0))), (5, (.x (.l (.g (.p (.g (.p (.i .i64) .s)) (.i .i64)))))), (6, (.x (.i .i64))), (7, (.x (.i .i64)))], [.box (.cons (.x (.i .i64)) (.cons (.x .s) (.cons (.x (.l (.g (.p (.g (.p (.i .i64) .s)) (.i .i64))))) .nil))), .mp T_api_Account .b, .box (.cons (.mp 1) .nil), .box (.cons (.own 6 1) .nil), .box (.cons (.x (.l (.g (.p (.g (.p (.i .i64) .s)) (.i .i64))))) .nil), .lp false, .arrN (.i .i64)]⟩
noncomputable abbrev entry_Check.L1 : ILp := [(25, 3, [(3, (NodeT.summ ⟨entry_Check.shi0, entry_Check.osi0, entry_Check.li0⟩ 3))])]
theorem entry_Check.L1ok : ILpOK P G0 entry_Check.L1 := ⟨⟨(loop_sum entry_Check.hok (by kernel_rfl) (by kernel_rfl) (l := []) trivial entry_Check.shi0 entry_Check.osi0 (by kernel_rfl) entry_Check.ti0 entry_Check.ti0_ok), trivial⟩, trivial⟩
noncomputable abbrev entry_Check.H1 : HK := hk P G0 E0 J0 [entry_ref.row, money_Sum.row, chart_May.row] (ilp entry_Check.L1) 4
theorem entry_Check.hok1 : HKOK P entry_Check.H1 := hk_ok e0_ok j0_ok entry_Check.rows (fun g n => ilp_ok entry_Check.L1ok g n) 4
noncomputable abbrev entry_Check.osi1 : PEnds := [((.exit 0), ⟨[], [.box (.cons (.x (.i .i64)) (.cons (.x .s) (.cons (.x (.l (.g (.p (.g (.p (.i .i64) .s)) (.i .i64))))) .nil))), .mp T_api_Account .b, .box (.cons (.mp 1) .nil), .box (.cons (.own 6 1) .nil), .box (.cons (.x (.l (.g (.p (.g (.p (.i .i64) .s)) (.i .i64))))) .nil), .lp false, .arrN (.i .i64)]⟩)]
noncomputable def entry_Check.ti1 (s : ((List ((Int × ByteArray) × Int)) × (Int × (Int × (Int × (ByteArray × ((List ((Int × ByteArray) × Int)) × ((List ((Int × ByteArray) × Bool)) × ((List ((Int × ByteArray) × Int)) × (List Int)))))))))) : Option (((List ((Int × ByteArray) × Int)) × (Int × (Int × (Int × (ByteArray × ((List ((Int × ByteArray) × Int)) × ((List ((Int × ByteArray) × Bool)) × ((List ((Int × ByteArray) × Int)) × (List Int))))))))) ⊕ ((Int × (ByteArray × ((List ((Int × ByteArray) × Int)) × ((List ((Int × ByteArray) × Bool)) × ((List ((Int × ByteArray) × Int)) × (List Int)))))))) := (bif (decide ((s.2.2.1 < s.2.1))) then (bif ((decide (((0 : Int) ≤ s.2.2.1))) && (decide ((s.2.2.1 < ((List.length s.1) : Int))))) then (bif ((true && (Nat.ble (((List.length s.2.2.2.2.2.2.2.2) + (List.length ((List.getD s.1 (Int.toNat s.2.2.1) (Ty.dflt T_api_Line)).2 :: []))) * 8) 140737488355328)) && (Nat.ble ((List.length s.2.2.2.2.2.2.2.2) + (List.length ((List.getD s.1 (Int.toNat s.2.2.1) (Ty.dflt T_api_Line)).2 :: []))) 140737488355328)) then (some (.inl (s.1, (s.2.1, ((IntKind.wrap .i64 (s.2.2.1 + (1 : Int))), (s.2.2.2.1, (s.2.2.2.2.1, (s.2.2.2.2.2.1, (s.2.2.2.2.2.2.1, (s.2.2.2.2.2.2.2.1, (s.2.2.2.2.2.2.2.2 ++ ((List.getD s.1 (Int.toNat s.2.2.1) (Ty.dflt T_api_Line)).2 :: [])))))))))))) else none) else none) else (some (.inr s.2.2.2)))
theorem entry_Check.ti1_ok : ∀ s : Vals entry_Check.shi1.tys, turnK P entry_Check.H1 (lp []) (bodyAt (codeOf P 57) 2) 6 entry_Check.shi1 entry_Check.osi1 s some = entry_Check.ti1 s := by rintro ⟨s0, s1, s2, s3, s4, s5, s6, s7, s8⟩; cases s8 <;> kernel_rfl
noncomputable def entry_Check.li1 : ((List ((Int × ByteArray) × Int)) × (Int × (Int × (Int × (ByteArray × ((List ((Int × ByteArray) × Int)) × ((List ((Int × ByteArray) × Bool)) × ((List ((Int × ByteArray) × Int)) × (List Int))))))))) → Option ((Int × (ByteArray × ((List ((Int × ByteArray) × Int)) × ((List ((Int × ByteArray) × Bool)) × ((List ((Int × ByteArray) × Int)) × (List Int))))))) := rounds entry_Check.ti1
noncomputable abbrev entry_Check.L2 : ILp := [(25, 3, [(3, (NodeT.summ ⟨entry_Check.shi0, entry_Check.osi0, entry_Check.li0⟩ 3))]), (57, 6, [(2, (NodeT.summ ⟨entry_Check.shi1, entry_Check.osi1, entry_Check.li1⟩ 6))])]
theorem entry_Check.L2ok : ILpOK P G0 entry_Check.L2 := ⟨⟨(loop_sum entry_Check.hok (by kernel_rfl) (by kernel_rfl) (l := []) trivial entry_Check.shi0 entry_Check.osi0 (by kernel_rfl) entry_Check.ti0 entry_Check.ti0_ok), trivial⟩, ⟨⟨(loop_sum entry_Check.hok1 (by kernel_rfl) (by kernel_rfl) (l := []) trivial entry_Check.shi1 entry_Check.osi1 (by kernel_rfl) entry_Check.ti1 entry_Check.ti1_ok), trivial⟩, trivial⟩⟩
noncomputable abbrev entry_Check.H2 : HK := hk P G0 E0 J0 [entry_ref.row, money_Sum.row, chart_May.row] (ilp entry_Check.L2) 4
theorem entry_Check.hok2 : HKOK P entry_Check.H2 := hk_ok e0_ok j0_ok entry_Check.rows (fun g n => ilp_ok entry_Check.L2ok g n) 4
noncomputable def entry_Check.f (a : (Int × (ByteArray × (List ((Int × ByteArray) × Int))))) : Option Int := (bif (decide ((a.1 < (0 : Int)))) then (some (1 : Int)) else (bif (decide ((a.1 > (2147483647 : Int)))) then (some (1 : Int)) else (((entry_ref.f a.2.1)).bind fun (x1 : Bool) => (bif (!x1) then (some (1 : Int)) else (bif (decide ((((List.length a.2.2) : Int) < (2 : Int)))) then (some (1 : Int)) else (bif (decide ((((List.length a.2.2) : Int) > (8 : Int)))) then (some (1 : Int)) else (((entry_Check.li0 (a.2.2, (((List.length a.2.2) : Int), ((0 : Int), (a.1, (a.2.1, (a.2.2, [])))))))).bind fun (x2 : ((Int × (Int × (ByteArray × ((List ((Int × ByteArray) × Int)) × (List ((Int × ByteArray) × Bool)))))) ⊕ (Int × (ByteArray × ((List ((Int × ByteArray) × Int)) × (List ((Int × ByteArray) × Bool))))))) => (match x2 with | .inl x3 => (bif (decide ((x3.1 ≥ (0 : Int)))) then (some (1 : Int)) else (((entry_Check.li1 (x3.2.2.2.1, (((List.length x3.2.2.2.1) : Int), ((0 : Int), (x3.2.1, (x3.2.2.1, (x3.2.2.2.1, (x3.2.2.2.2, (x3.2.2.2.1, [])))))))))).bind fun (x4 : (Int × (ByteArray × ((List ((Int × ByteArray) × Int)) × ((List ((Int × ByteArray) × Bool)) × ((List ((Int × ByteArray) × Int)) × (List Int))))))) => (match x4.2.2.2.2.2 with | [] => (((money_Sum.f [])).bind fun (x5 : (Int × Int)) => (bif (x5.2 != (0 : Int)) then (some x5.2) else (bif (x5.1 != (0 : Int)) then (some (12 : Int)) else (some (0 : Int))))) | x5 :: x6 => (((money_Sum.f (x5 :: x6))).bind fun (x7 : (Int × Int)) => (bif (x7.2 != (0 : Int)) then (some x7.2) else (bif (x7.1 != (0 : Int)) then (some (12 : Int)) else (some (0 : Int)))))))) | .inr x3 => (((entry_Check.li1 (x3.2.2.1, (((List.length x3.2.2.1) : Int), ((0 : Int), (x3.1, (x3.2.1, (x3.2.2.1, (x3.2.2.2, (x3.2.2.1, [])))))))))).bind fun (x4 : (Int × (ByteArray × ((List ((Int × ByteArray) × Int)) × ((List ((Int × ByteArray) × Bool)) × ((List ((Int × ByteArray) × Int)) × (List Int))))))) => (match x4.2.2.2.2.2 with | [] => (((money_Sum.f [])).bind fun (x5 : (Int × Int)) => (bif (x5.2 != (0 : Int)) then (some x5.2) else (bif (x5.1 != (0 : Int)) then (some (12 : Int)) else (some (0 : Int))))) | x5 :: x6 => (((money_Sum.f (x5 :: x6))).bind fun (x7 : (Int × Int)) => (bif (x7.2 != (0 : Int)) then (some x7.2) else (bif (x7.1 != (0 : Int)) then (some (12 : Int)) else (some (0 : Int)))))))))))))))
theorem entry_Check.ok : ∀ a : Vals entry_Check.As.tys, fnK P entry_Check.H2 (lp []) 18 entry_Check.As entry_Check.m a some = entry_Check.f a := fun a => by kernel_rfl
noncomputable abbrev entry_Check.row : Row := fnRow 18 entry_Check.As entry_Check.m entry_Check.f
theorem entry_Check.row_ok : RowOK P G0 entry_Check.row := row_told entry_Check.hok2 (lp_of (l := []) trivial) (fun _ => rfl) entry_Check.ok
end Go.Proofs.YtnnebljljmpdkaaDoor
end
section
/- The Go function bursarref12.Check, as a Lean function, and that it is this one. Written by a program of this session. -/
set_option linter.unusedVariables false
set_option maxRecDepth 100000
namespace Go.Proofs.YtnnebljljmpdkaaDoor
open Go Go.Fw
abbrev bursarref12_Check.As : Shs := (.cons (.x T_api_Entry) .nil)
abbrev bursarref12_Check.m : Back := [(false, (.i .i64))]
noncomputable abbrev bursarref12_Check.H : HK := hk P G0 E0 J0 [bursarref01_Sum.row, bursarref11_Name.row] noLoops 4
theorem bursarref12_Check.rows : TabOK P G0 (tabF [bursarref01_Sum.row, bursarref11_Name.row]) := rows_ok (ws := [bursarref01_Sum.row, bursarref11_Name.row]) ⟨bursarref01_Sum.row_ok, ⟨bursarref11_Name.row_ok, trivial⟩⟩
theorem bursarref12_Check.hok : HKOK P bursarref12_Check.H := hk_ok e0_ok j0_ok bursarref12_Check.rows (fun g n => noLoops_ok g n) 4
noncomputable abbrev bursarref12_Check.sh6 : SSh := ⟨[(1, (.pt 0 0)), (3, (.x (.i .i64)))], [.box (.cons (.x (.i .i64)) (.cons (.x .s) (.cons (.x (.l (.g (.p (.g (.p (.i .i64) .s)) (.i .i64))))) .nil)))]⟩
noncomputable abbrev bursarref12_Check.os6 : PEnds := [(.ret, ⟨[(2, (.x (.i .i64)))], []⟩), ((.exit 0), ⟨[(1, (.pt 0 0))], [.box (.cons (.x (.i .i64)) (.cons (.x .s) (.cons (.x (.l (.g (.p (.g (.p (.i .i64) .s)) (.i .i64))))) .nil)))]⟩)]
noncomputable def bursarref12_Check.t6 (s : (Int × (Int × (ByteArray × (List ((Int × ByteArray) × Int)))))) : Option ((Int × (Int × (ByteArray × (List ((Int × ByteArray) × Int))))) ⊕ (Int ⊕ (Int × (ByteArray × (List ((Int × ByteArray) × Int)))))) := (bif (decide ((s.1 < (s.2.2.1.size : Int)))) then (bif ((decide (((0 : Int) ≤ s.1))) && (decide ((s.1 < (s.2.2.1.size : Int))))) then (bif (decide (((bt s.2.2.1 (Int.toNat s.1)) < (33 : Int)))) then (some (.inr (.inl (1 : Int)))) else (bif ((decide (((0 : Int) ≤ s.1))) && (decide ((s.1 < (s.2.2.1.size : Int))))) then (bif (decide (((bt s.2.2.1 (Int.toNat s.1)) > (126 : Int)))) then (some (.inr (.inl (1 : Int)))) else (some (.inl ((IntKind.wrap .i64 (s.1 + (1 : Int))), s.2)))) else none)) else none) else (some (.inr (.inr s.2))))
theorem bursarref12_Check.t6_ok : ∀ s : Vals bursarref12_Check.sh6.tys, turnK P bursarref12_Check.H (lp []) (bodyAt (codeOf P 11) 6) 0 bursarref12_Check.sh6 bursarref12_Check.os6 s some = bursarref12_Check.t6 s := fun s => by kernel_rfl
noncomputable def bursarref12_Check.l6 : (Int × (Int × (ByteArray × (List ((Int × ByteArray) × Int))))) → Option (Int ⊕ (Int × (ByteArray × (List ((Int × ByteArray) × Int))))) := rounds bursarref12_Check.t6
noncomputable abbrev bursarref12_Check.sh10 : SSh := ⟨[(1, (.pt 0 0)), (4, (.own 1 1)), (5, (.x (.i .i64)))], [.box (.cons (.x (.i .i64)) (.cons (.x .s) (.cons (.x (.l (.g (.p (.g (.p (.i .i64) .s)) (.i .i64))))) .nil))), .arrN (.i .i64)]⟩
noncomputable abbrev bursarref12_Check.sh10_9 : SSh := ⟨[(1, (.pt 0 0)), (4, (.own 1 1)), (5, (.x (.i .i64))), (8, (.x (.i .i64)))], [.box (.cons (.x (.i .i64)) (.cons (.x .s) (.cons (.x (.l (.g (.p (.g (.p (.i .i64) .s)) (.i .i64))))) .nil))), .arrN (.i .i64)]⟩
noncomputable abbrev bursarref12_Check.os10_9 : PEnds := [(.ret, ⟨[(2, (.x (.i .i64)))], []⟩), ((.exit 4), ⟨[(1, (.pt 0 0)), (4, (.own 1 1)), (5, (.x (.i .i64)))], [.box (.cons (.x (.i .i64)) (.cons (.x .s) (.cons (.x (.l (.g (.p (.g (.p (.i .i64) .s)) (.i .i64))))) .nil))), .arrN (.i .i64)]⟩)]
noncomputable def bursarref12_Check.t10_9 (s : (Int × (Int × (Int × (ByteArray × ((List ((Int × ByteArray) × Int)) × (List Int))))))) : Option ((Int × (Int × (Int × (ByteArray × ((List ((Int × ByteArray) × Int)) × (List Int)))))) ⊕ (Int ⊕ (Int × (Int × (ByteArray × ((List ((Int × ByteArray) × Int)) × (List Int))))))) := (bif (decide ((s.2.1 < s.1))) then (bif ((decide (((0 : Int) ≤ s.2.1))) && (decide ((s.2.1 < ((List.length s.2.2.2.2.1) : Int))))) then (bif ((decide (((0 : Int) ≤ s.1))) && (decide ((s.1 < ((List.length s.2.2.2.2.1) : Int))))) then (bif (((List.getD s.2.2.2.2.1 (Int.toNat s.2.1) (Ty.dflt T_api_Line)).1.1 == (List.getD s.2.2.2.2.1 (Int.toNat s.1) (Ty.dflt T_api_Line)).1.1) && (((ByteArray.toList (List.getD s.2.2.2.2.1 (Int.toNat s.2.1) (Ty.dflt T_api_Line)).1.2) == (ByteArray.toList (List.getD s.2.2.2.2.1 (Int.toNat s.1) (Ty.dflt T_api_Line)).1.2)) && true)) then (some (.inr (.inl (1 : Int)))) else (some (.inl (s.1, ((IntKind.wrap .i64 (s.2.1 + (1 : Int))), s.2.2))))) else none) else none) else (some (.inr (.inr (s.1, s.2.2)))))
theorem bursarref12_Check.t10_9_ok : ∀ s : Vals bursarref12_Check.sh10_9.tys, turnK P bursarref12_Check.H (lp []) (bodyAt (bodyAt (codeOf P 11) 10) 9) 0 bursarref12_Check.sh10_9 bursarref12_Check.os10_9 s some = bursarref12_Check.t10_9 s := by rintro ⟨s0, s1, s2, s3, s4, s5⟩; cases s5 <;> kernel_rfl
noncomputable def bursarref12_Check.l10_9 : (Int × (Int × (Int × (ByteArray × ((List ((Int × ByteArray) × Int)) × (List Int)))))) → Option (Int ⊕ (Int × (Int × (ByteArray × ((List ((Int × ByteArray) × Int)) × (List Int)))))) := rounds bursarref12_Check.t10_9
noncomputable abbrev bursarref12_Check.os10 : PEnds := [(.ret, ⟨[(2, (.x (.i .i64)))], []⟩), ((.exit 2), ⟨[(4, (.x (.l (.i .i64))))], []⟩)]
noncomputable def bursarref12_Check.t10 (s : (Int × (Int × (ByteArray × ((List ((Int × ByteArray) × Int)) × (List Int)))))) : Option ((Int × (Int × (ByteArray × ((List ((Int × ByteArray) × Int)) × (List Int))))) ⊕ (Int ⊕ (List Int))) := (bif (decide ((s.1 < ((List.length s.2.2.2.1) : Int)))) then (bif ((decide (((0 : Int) ≤ s.1))) && (decide ((s.1 < ((List.length s.2.2.2.1) : Int))))) then (((bursarref11_Name.f (List.getD s.2.2.2.1 (Int.toNat s.1) (Ty.dflt T_api_Line)).1)).bind fun (x6 : (ByteArray × Bool)) => (bif (!x6.2) then (some (.inr (.inl (1 : Int)))) else (bif ((decide (((0 : Int) ≤ s.1))) && (decide ((s.1 < ((List.length s.2.2.2.1) : Int))))) then (bif ((List.getD s.2.2.2.1 (Int.toNat s.1) (Ty.dflt T_api_Line)).2 == (0 : Int)) then (some (.inr (.inl (1 : Int)))) else (((bursarref12_Check.l10_9 (s.1, ((0 : Int), s.2)))).bind fun (x7 : (Int ⊕ (Int × (Int × (ByteArray × ((List ((Int × ByteArray) × Int)) × (List Int))))))) => (match x7 with | .inl x8 => (some (.inr (.inl x8))) | .inr x8 => (match x8.2.2.2.2 with | [] => (bif ((decide (((0 : Int) ≤ x8.1))) && (decide ((x8.1 < ((List.length x8.2.2.2.1) : Int))))) then (some (.inl ((IntKind.wrap .i64 (x8.1 + (1 : Int))), (x8.2.1, (x8.2.2.1, (x8.2.2.2.1, ((List.getD x8.2.2.2.1 (Int.toNat x8.1) (Ty.dflt T_api_Line)).2 :: []))))))) else none) | x9 :: x10 => (bif ((decide (((0 : Int) ≤ x8.1))) && (decide ((x8.1 < ((List.length x8.2.2.2.1) : Int))))) then (bif ((true && (Nat.ble (((List.length (x9 :: x10)) + (List.length ((List.getD x8.2.2.2.1 (Int.toNat x8.1) (Ty.dflt T_api_Line)).2 :: []))) * 8) 140737488355328)) && (Nat.ble ((List.length (x9 :: x10)) + (List.length ((List.getD x8.2.2.2.1 (Int.toNat x8.1) (Ty.dflt T_api_Line)).2 :: []))) 140737488355328)) then (some (.inl ((IntKind.wrap .i64 (x8.1 + (1 : Int))), (x8.2.1, (x8.2.2.1, (x8.2.2.2.1, ((x9 :: x10) ++ ((List.getD x8.2.2.2.1 (Int.toNat x8.1) (Ty.dflt T_api_Line)).2 :: [])))))))) else none) else none))))) else none))) else none) else (some (.inr (.inr s.2.2.2.2))))
theorem bursarref12_Check.t10_ok : ∀ s : Vals bursarref12_Check.sh10.tys, turnK P bursarref12_Check.H (lp [(9, (NodeT.summ ⟨bursarref12_Check.sh10_9, bursarref12_Check.os10_9, bursarref12_Check.l10_9⟩ 0))]) (bodyAt (codeOf P 11) 10) 0 bursarref12_Check.sh10 bursarref12_Check.os10 s some = bursarref12_Check.t10 s := by rintro ⟨s0, s1, s2, s3, s4⟩; cases s4 <;> kernel_rfl
noncomputable def bursarref12_Check.l10 : (Int × (Int × (ByteArray × ((List ((Int × ByteArray) × Int)) × (List Int))))) → Option (Int ⊕ (List Int)) := rounds bursarref12_Check.t10
noncomputable def bursarref12_Check.f (a : (Int × (ByteArray × (List ((Int × ByteArray) × Int))))) : Option Int := (bif (decide ((a.1 < (0 : Int)))) then (some (1 : Int)) else (bif (decide ((a.1 > (2147483647 : Int)))) then (some (1 : Int)) else (bif (decide (((a.2.1.size : Int) > (20 : Int)))) then (some (1 : Int)) else (bif (decide ((((List.length a.2.2) : Int) < (2 : Int)))) then (some (1 : Int)) else (bif (decide ((((List.length a.2.2) : Int) > (8 : Int)))) then (some (1 : Int)) else (((bursarref12_Check.l6 ((0 : Int), a))).bind fun (x1 : (Int ⊕ (Int × (ByteArray × (List ((Int × ByteArray) × Int)))))) => (match x1 with | .inl x2 => (some x2) | .inr x2 => (((bursarref12_Check.l10 ((0 : Int), (x2.1, (x2.2.1, (x2.2.2, [])))))).bind fun (x3 : (Int ⊕ (List Int))) => (match x3 with | .inl x4 => (some x4) | .inr x4 => (((bursarref01_Sum.f x4)).bind fun (x5 : (Int × Bool)) => (bif (!x5.2) then (some (2 : Int)) else (bif (x5.1 != (0 : Int)) then (some (12 : Int)) else (some (0 : Int))))))))))))))
theorem bursarref12_Check.ok : ∀ a : Vals bursarref12_Check.As.tys, fnK P bursarref12_Check.H (lp [(6, (NodeT.summ ⟨bursarref12_Check.sh6, bursarref12_Check.os6, bursarref12_Check.l6⟩ 0)), (10, (NodeT.summ ⟨bursarref12_Check.sh10, bursarref12_Check.os10, bursarref12_Check.l10⟩ 0))]) 11 bursarref12_Check.As bursarref12_Check.m a some = bursarref12_Check.f a := fun a => by kernel_rfl
noncomputable abbrev bursarref12_Check.row : Row := fnRow 11 bursarref12_Check.As bursarref12_Check.m bursarref12_Check.f
theorem bursarref12_Check.row_ok : RowOK P G0 bursarref12_Check.row := row_told bursarref12_Check.hok (lp_of (l := [(6, (NodeT.summ ⟨bursarref12_Check.sh6, bursarref12_Check.os6, bursarref12_Check.l6⟩ 0)), (10, (NodeT.summ ⟨bursarref12_Check.sh10, bursarref12_Check.os10, bursarref12_Check.l10⟩ 0))]) ⟨(loop_sum bursarref12_Check.hok (by kernel_rfl) (by kernel_rfl) (l := []) trivial bursarref12_Check.sh6 bursarref12_Check.os6 (by kernel_rfl) bursarref12_Check.t6 bursarref12_Check.t6_ok), ⟨(loop_sum bursarref12_Check.hok (by kernel_rfl) (by kernel_rfl) (l := [(9, (NodeT.summ ⟨bursarref12_Check.sh10_9, bursarref12_Check.os10_9, bursarref12_Check.l10_9⟩ 0))]) ⟨(loop_sum bursarref12_Check.hok (by kernel_rfl) (by kernel_rfl) (l := []) trivial bursarref12_Check.sh10_9 bursarref12_Check.os10_9 (by kernel_rfl) bursarref12_Check.t10_9 bursarref12_Check.t10_9_ok), trivial⟩ bursarref12_Check.sh10 bursarref12_Check.os10 (by kernel_rfl) bursarref12_Check.t10 bursarref12_Check.t10_ok), trivial⟩⟩) (fun _ => rfl) bursarref12_Check.ok
end Go.Proofs.YtnnebljljmpdkaaDoor
end
section
/- Accounts, references, and what is wrong with an entry: what the code and the document's answer compute. By this session. -/
set_option linter.unusedVariables false
set_option linter.unusedSimpArgs false
namespace Go.Proofs.YtnnebljljmpdkaaDoor
open Go Go.Fw
abbrev Acc := Int × ByteArray
abbrev Lin := Acc × Int
abbrev Ent := Int × ByteArray × List Lin
theorem bs_nil_size (s : ByteArray) (h : s = bs []) : s.size = 0 := by rw [h, bs_size]; rfl
/-- may an account be? -/
def maySB (a : Acc) : Bool := bif a.1 == 1 then cardB a.2 else bif a.1 == 2 then acqB a.2 else (a.1 == 3 || a.1 == 4) && decide (a.2 = bs [])
theorem chartMay_is (a : Acc) : chart_May.f a = some (maySB a) := by
  obtain ⟨k, s⟩ := a
  unfold maySB
  by_cases h1 : k = 1
  · subst h1; exact card_is s
  by_cases h2 : k = 2
  · subst h2; exact acq_is s
  have e1 : (k == 1) = false := by simpa using h1
  have e2 : (k == 2) = false := by simpa using h2
  unfold chart_May.f
  simp only [e1, e2, cond_false, texts_nil]
  cases (k == 3) <;> cases (k == 4) <;> simp
/-- the letter that an account's name begins with -/
def letterOf (k : Int) : UInt8 := bif k == 1 then 67 else bif k == 2 then 65 else bif k == 3 then 72 else 68
/-- an account's name -/
def nameT (a : Acc) : ByteArray := bif maySB a then bs (letterOf a.1 :: a.2.data.toList) else bs []
theorem bs_cons (c : UInt8) (s : ByteArray) : bs [c] ++ s = bs (c :: s.data.toList) := by
  conv => lhs; rw [eq_bs s]
  rw [bs_append]; rfl
theorem refName_is (a : Acc) : bursarref11_Name.f a = some (nameT a, maySB a) := by
  obtain ⟨k, s⟩ := a
  unfold nameT maySB
  by_cases h1 : k = 1
  · subst h1
    obtain ⟨t, ht⟩ := ref_card_is s
    unfold bursarref11_Name.f at ht ⊢
    simp only [beq_self_eq_true, cond_true] at ht ⊢
    by_cases hz : s.size = 16
    · have e : (((s.size : Nat) : Int) == 16) = true := by simp; omega
      simp only [e, cond_true] at ht ⊢
      cases hs : bursarref02_Sound.f s with
      | none => rw [hs] at ht; cases ht
      | some b =>
        rw [hs] at ht
        simp only [Option.bind_some] at ht ⊢
        cases b
        · simp only [cond_false, show ((1 : Int) == 2) = false from rfl, show ((1 : Int) == 3) = false from rfl, show ((1 : Int) == 4) = false from rfl, Option.some.injEq, Prod.mk.injEq] at ht ⊢
          rw [← ht.2]
          exact ⟨rfl, rfl⟩
        · simp only [cond_true, hz, show Nat.ble (1 + 16) 9223372036854775807 = true from rfl, Option.some.injEq, Prod.mk.injEq] at ht ⊢
          rw [← ht.2]
          refine ⟨?_, rfl⟩
          rw [cond_true, bs_cons]; rfl
    · have e : (((s.size : Nat) : Int) == 16) = false := by simp; omega
      have hc : cardB s = false := by unfold cardB; simp [hz]
      simp only [e, cond_false, show ((1 : Int) == 2) = false from rfl, show ((1 : Int) == 3) = false from rfl, show ((1 : Int) == 4) = false from rfl, hc]
  by_cases h2 : k = 2
  · subst h2
    obtain ⟨t, ht⟩ := ref_acq_is s
    unfold bursarref11_Name.f at ht ⊢
    simp only [beq_self_eq_true, cond_true, show ((2 : Int) == 1) = false from rfl, cond_false] at ht ⊢
    by_cases hz : s.size = 6
    · have e : (((s.size : Nat) : Int) == 6) = true := by simp; omega
      simp only [e, cond_true] at ht ⊢
      cases hs : bursarref02_All.f s with
      | none => rw [hs] at ht; cases ht
      | some b =>
        rw [hs] at ht
        simp only [Option.bind_some] at ht ⊢
        cases b
        · simp only [cond_false, show ((2 : Int) == 3) = false from rfl, show ((2 : Int) == 4) = false from rfl, Option.some.injEq, Prod.mk.injEq] at ht ⊢
          rw [← ht.2]
          exact ⟨rfl, rfl⟩
        · simp only [cond_true, hz, show Nat.ble (1 + 6) 9223372036854775807 = true from rfl, Option.some.injEq, Prod.mk.injEq] at ht ⊢
          rw [← ht.2]
          refine ⟨?_, rfl⟩
          rw [cond_true, bs_cons]; rfl
    · have e : (((s.size : Nat) : Int) == 6) = false := by simp; omega
      have hc : acqB s = false := by unfold acqB; simp [hz]
      simp only [e, cond_false, show ((2 : Int) == 3) = false from rfl, show ((2 : Int) == 4) = false from rfl, hc]
  have e1 : (k == 1) = false := by simpa using h1
  have e2 : (k == 2) = false := by simpa using h2
  unfold bursarref11_Name.f letterOf
  simp only [e1, e2, cond_false, texts_nil]
  by_cases hs : s = bs []
  · subst hs
    rw [decide_eq_true rfl]
    cases h3 : (k == 3) <;> cases h4 : (k == 4) <;> rfl
  · rw [decide_eq_false hs]
    cases h3 : (k == 3) <;> cases h4 : (k == 4) <;> rfl
/-! ### a reference -/
def okRef (s : ByteArray) : Bool := decide (s.size ≤ 20) && s.data.toList.all fun c => decide (33 ≤ c.toNat) && decide (c.toNat ≤ 126)
theorem rune_low {s : ByteArray} {i : Nat} (hi : i < s.size) (h : (s.data.toList.getD i 0).toNat < 128) : runeD s i = ((s.data.toList.getD i 0).toNat, 1) := by
  have e : s.data.toList.getD i 0 = s[i]'hi := by
    rw [List.getD_eq_getElem?_getD, Array.getElem?_toList, Array.getElem?_eq_getElem (by simpa using hi)]
    rfl
  rw [e] at h ⊢
  exact Go.decode_ascii s i hi h
theorem rune_high {s : ByteArray} {i : Nat} (hi : i < s.size) (h : 128 ≤ (s.data.toList.getD i 0).toNat) : 127 < (runeD s i).1 := by
  have e : s.data.toList.getD i 0 = s.get! (i + 0) := by
    rw [List.getD_eq_getElem?_getD, Array.getElem?_toList]
    show _ = s.data.get!Internal (i + 0)
    simp [Array.get!Internal, Array.getD]
    rw [dif_pos (by simpa using hi), Array.getElem?_eq_getElem (by simpa using hi)]
    rfl
  rw [e] at h
  unfold runeD Utf8.decode
  simp only
  rw [if_neg (by omega)]
  split
  · split
    · omega
    · decide
  · split
    · split
      · rename_i h'
        simp only [Bool.and_eq_true, decide_eq_true_eq] at h'
        omega
      · decide
    · split
      · split
        · rename_i h'
          simp only [Bool.and_eq_true, decide_eq_true_eq] at h'
          omega
        · decide
      · decide
def okB33 (c : UInt8) : Bool := decide (33 ≤ c.toNat) && decide (c.toNat ≤ 126)
theorem ref_step {s : ByteArray} {i : Nat} (hi : i < s.size) : entry_ref.ti0 (true, s, ((i : Nat) : Int)) = some (bif okB33 (s.data.toList.getD i 0) then .inl (true, s, ((i + 1 : Nat) : Int)) else .inr (.inl ((i : Nat) : Int))) := by
  have hb : Nat.blt (Int.toNat ((i : Nat) : Int)) s.size = true := by rw [Int.toNat_natCast, Nat.blt_eq]; exact hi
  unfold entry_ref.ti0
  obtain ⟨x, hx⟩ : ∃ x, runeD s i = x := ⟨_, rfl⟩
  have hx' : runeD s (Int.toNat ((i : Nat) : Int)) = x := by rw [Int.toNat_natCast]; exact hx
  obtain ⟨c, hc⟩ : ∃ c, s.data.toList.getD i 0 = c := ⟨_, rfl⟩
  have main : ∀ (x1 x2 : Nat), x = (x1, x2) → (c.toNat < 128 → x1 = c.toNat ∧ x2 = 1) → (128 ≤ c.toNat → 127 < x1) → (bif decide (((x1 : Nat) : Int) < (33 : Int)) then (bif (true == true) then some (Sum.inr (α := Bool × ByteArray × Int) (Sum.inl (β := Unit) ((i : Nat) : Int))) else some (.inl (true, s, ((i + x2 : Nat) : Int)))) else (bif decide (((x1 : Nat) : Int) > (126 : Int)) == true then some (.inr (.inl ((i : Nat) : Int))) else some (.inl (true, s, ((i + x2 : Nat) : Int))))) = some (bif okB33 c then .inl (true, s, ((i + 1 : Nat) : Int)) else .inr (.inl ((i : Nat) : Int))) := by
    intro x1 x2 _ h1 h2
    by_cases c0 : c.toNat < 128
    · obtain ⟨rfl, rfl⟩ := h1 c0
      by_cases c1 : c.toNat < 33
      · have e : okB33 c = false := by unfold okB33; rw [decide_eq_false (show ¬ 33 ≤ c.toNat by omega)]; rfl
        rw [decide_eq_true (show ((c.toNat : Nat) : Int) < 33 by omega), e]
        rfl
      · by_cases c2 : c.toNat ≤ 126
        · have e : okB33 c = true := by unfold okB33; rw [decide_eq_true (show 33 ≤ c.toNat by omega), decide_eq_true c2]; rfl
          rw [decide_eq_false (show ¬ ((c.toNat : Nat) : Int) < 33 by omega), decide_eq_false (show ¬ ((c.toNat : Nat) : Int) > 126 by omega), e]
          rfl
        · have e : okB33 c = false := by unfold okB33; rw [decide_eq_false c2, Bool.and_false]
          rw [decide_eq_false (show ¬ ((c.toNat : Nat) : Int) < 33 by omega), decide_eq_true (show ((c.toNat : Nat) : Int) > 126 by omega), e]
          rfl
    · have h2 := h2 (by omega)
      have e : okB33 c = false := by unfold okB33; rw [decide_eq_false (show ¬ c.toNat ≤ 126 by omega), Bool.and_false]
      rw [decide_eq_false (show ¬ ((x1 : Nat) : Int) < 33 by omega), decide_eq_true (show ((x1 : Nat) : Int) > 126 by omega), e]
      rfl
  have h3 := main x.1 x.2 rfl (fun h => by
      have := rune_low hi (by rw [hc]; exact h)
      rw [hx, hc] at this
      rw [this]; exact ⟨rfl, rfl⟩) (fun h => by
      have := rune_high hi (by rw [hc]; exact h)
      rwa [hx] at this)
  rw [hc, ← h3]
  show (bif Nat.blt (Int.toNat ((i : Nat) : Int)) s.size then _ else _) = _
  rw [hb, cond_true, hx', Int.toNat_natCast]
  rfl
theorem ref_end (s : ByteArray) : entry_ref.ti0 (true, s, ((s.size : Nat) : Int)) = some (.inr (.inr ())) := by
  have hb : Nat.blt s.size s.size = false := by rw [← Bool.not_eq_true, Nat.blt_eq]; omega
  simp only [entry_ref.ti0, Int.toNat_natCast, hb, cond_false]
theorem ref_is (s : ByteArray) : entry_ref.f s = some (okRef s) := by
  unfold entry_ref.f okRef
  by_cases hs : s.size ≤ 20
  · rw [decide_eq_true (show (s.size : Int) ≤ 20 by omega), cond_true, decide_eq_true hs, Bool.true_and]
    have hl : s.data.toList.length = s.size := by simp
    have hf := rounds_first (t := entry_ref.ti0) (fun i => (true, s, ((i : Nat) : Int))) (fun i => bif okB33 (s.data.toList.getD i 0) then none else some (.inl ((i : Nat) : Int))) (.inr ()) s.size (fun i hi _ => (ref_step hi).trans (by cases okB33 (s.data.toList.getD i 0) <;> rfl)) (fun _ => ref_end s)
    have hf' : entry_ref.li0 (true, s, 0) = some (((List.range s.size).findSome? (fun i => bif okB33 (s.data.toList.getD i 0) then none else some (Sum.inl (β := Unit) ((i : Nat) : Int)))).getD (.inr ())) := hf
    have ha := range_all okB33 0 s.data.toList
    rw [hl] at ha
    have hall : (s.data.toList.all fun c => decide (33 ≤ c.toNat) && decide (c.toNat ≤ 126)) = s.data.toList.all okB33 := rfl
    rw [hall, ← ha, hf']
    rcases find_not (n := s.size) (p := fun i => okB33 (s.data.toList.getD i 0)) (g := fun i => Sum.inl (β := Unit) ((i : Nat) : Int)) with ⟨i, _, h1, h2⟩ | ⟨h1, h2⟩
    · rw [h1, h2]
      simp only [Option.getD_some, Option.bind_some, decide_eq_true (show ((i : Nat) : Int) ≥ 0 by omega), Bool.not_true]
    · rw [h1, h2]
      rfl
  · rw [decide_eq_false (show ¬ (s.size : Int) ≤ 20 by omega), decide_eq_false hs]; rfl
/-! ### lines -/
theorem accEq (a b : Acc) : Ty.eqb T_api_Account a b = decide (a = b) := by
  obtain ⟨k, s⟩ := a
  obtain ⟨k', s'⟩ := b
  show (k == k' && (ByteArray.toList s == ByteArray.toList s')) = _
  rw [texts_eq, Bool.eq_iff_iff]
  simp
theorem mget_mput (k k' : Acc) (v : Bool) : ∀ l : List (Acc × Bool), mget T_api_Account .b (mput T_api_Account .b l k v) k' = if k' = k then some v else mget T_api_Account .b l k'
  | [] => by
    simp only [mput, mget, accEq]
    by_cases h : k' = k
    · rw [if_pos h, decide_eq_true h]; rfl
    · rw [if_neg h, decide_eq_false h]; rfl
  | e :: l => by
    have ih := mget_mput k k' v l
    simp only [mput, accEq]
    by_cases h1 : k = e.1
    · rw [decide_eq_true h1]
      simp only [cond_true, mget, accEq]
      by_cases h : k' = k
      · rw [if_pos h, decide_eq_true h]; rfl
      · rw [if_neg h, decide_eq_false h, decide_eq_false (fun h2 => h (h2.trans h1.symm))]; rfl
    · rw [decide_eq_false h1]
      simp only [cond_false, mget, accEq, ih]
      by_cases h : k' = e.1
      · have hne : ¬ k' = k := fun h2 => h1 (h2.symm.trans h)
        rw [if_neg hne, if_neg hne]
      · rw [decide_eq_false h]; rfl
def zL : Lin := ((0, bs []), 0)
def metL (l : List Lin) : Nat → List (Acc × Bool)
  | 0 => []
  | i + 1 => mput T_api_Account .b (metL l i) (l.getD i zL).1 true
theorem met_is (l : List Lin) (k : Acc) : ∀ i, mgetD T_api_Account .b (metL l i) k false = (List.range i).any fun j => decide ((l.getD j zL).1 = k)
  | 0 => rfl
  | i + 1 => by
    have ih := met_is l k i
    unfold mgetD at ih ⊢
    rw [metL, mget_mput, List.range_succ, List.any_append, ← ih]
    by_cases h : k = (l.getD i zL).1
    · rw [if_pos h]; simp [h]
    · rw [if_neg h]
      have : decide ((l.getD i zL).1 = k) = false := decide_eq_false fun h2 => h h2.symm
      rw [List.any_cons, List.any_nil, this, Bool.or_false, Bool.or_false]
/-- is a line as it must be? -/
def okLine (l : List Lin) (i : Nat) : Bool := !((List.range i).any fun j => decide ((l.getD j zL).1 = (l.getD i zL).1)) && (!((l.getD i zL).2 == 0) && maySB (l.getD i zL).1)
def okLines (l : List Lin) : Bool := (List.range l.length).all (okLine l)
/-- what data of a run are -/
def goodL (l : List Lin) : Prop := ∀ y ∈ l, (Lit.int .i64 y.1.1).wf = true ∧ y.1.2.size ≤ maxLen ∧ Am y.2
theorem goodL.at {l : List Lin} (h : goodL l) {i : Nat} (hi : i < l.length) : Ty.keyFit T_api_Account (l.getD i zL).1 = true := by
  obtain ⟨h1, h2, _⟩ := h (l.getD i zL) (by rw [getD_at hi]; exact List.getElem_mem hi)
  show ((Lit.int .i64 (l.getD i zL).1.1).wf && Nat.ble (l.getD i zL).1.2.size maxLen) = true
  rw [h1, Nat.ble_eq_true_of_le h2]; rfl
theorem dflt_line : (Ty.dflt T_api_Line : (Int × ByteArray) × Int) = zL := rfl
theorem lines_rounds {l : List Lin} (hg : goodL l) (hlen : l.length ≤ 1000) (b : Int) (r : ByteArray) :
    ∃ x, entry_Check.li0 (l, (l.length : Int), 0, b, r, l, []) = some x ∧ (match x with | .inl y => 0 ≤ y.1 ∧ okLines l = false | .inr y => okLines l = true ∧ y.1 = b ∧ y.2.1 = r ∧ y.2.2.1 = l) := by
  have hf := rounds_first (t := entry_Check.ti0) (fun i => (l, (l.length : Int), ((i : Nat) : Int), b, r, l, metL l i)) (fun i => bif okLine l i then none else some (.inl (((i : Nat) : Int), b, r, l, metL l (i + 1)))) (.inr (b, r, l, metL l l.length)) l.length (fun i hi _ => by
    simp only [entry_Check.ti0, inb hi, cond_true, ge0' i, Bool.and_self, Int.toNat_natCast, dflt_line, hg.at hi, met_is, chartMay_is, Option.bind_some, wrap_up (show i < 9223372036854775807 by omega)]
    unfold okLine
    cases (List.range i).any fun j => decide ((l.getD j zL).1 = (l.getD i zL).1)
    · cases ((l.getD i zL).2 == 0)
      · cases maySB (l.getD i zL).1 <;> rfl
      · rfl
    · rfl) (fun _ => by simp only [entry_Check.ti0, outb, cond_false])
  rcases find_not (n := l.length) (p := okLine l) (g := fun i => Sum.inl (β := Int × ByteArray × List Lin × List (Acc × Bool)) (((i : Nat) : Int), b, r, l, metL l (i + 1))) with ⟨i, _, h1, h2⟩ | ⟨h1, h2⟩
  · refine ⟨_, hf, ?_⟩
    rw [h1]
    exact ⟨by simp only; omega, h2⟩
  · refine ⟨_, hf, ?_⟩
    rw [h1]
    exact ⟨h2, rfl, rfl, rfl⟩
theorem amounts_rounds {l : List Lin} (hlen : l.length ≤ 1000) (b : Int) (r : ByteArray) (m : List (Acc × Bool)) : entry_Check.li1 (l, (l.length : Int), 0, b, r, l, m, l, []) = some (b, r, l, m, l, l.map (·.2)) := by
  have := rounds_map (t := entry_Check.ti1) l zL (fun y => y.2) (fun acc i => (l, (l.length : Int), ((i : Nat) : Int), b, r, l, m, l, acc)) (fun acc => (b, r, l, m, l, acc)) (fun i hi => by
    have hl : ((l.take i).map (fun y : Lin => y.2)).length ≤ 1000 := by simp; omega
    simp only [entry_Check.ti1, inb hi, cond_true, ge0' i, Bool.and_self, Int.toNat_natCast, dflt_line, List.length_cons, List.length_nil, Nat.zero_add, Bool.true_and,
      Nat.ble_eq_true_of_le (show (((l.take i).map (fun y : Lin => y.2)).length + 1) * 8 ≤ 140737488355328 by omega), Nat.ble_eq_true_of_le (show ((l.take i).map (fun y : Lin => y.2)).length + 1 ≤ 140737488355328 by omega), wrap_up (show i < 9223372036854775807 by omega)]) (fun acc _ => by simp only [entry_Check.ti1, outb, cond_false])
  exact this
/-- what is wrong with an entry: the error's number -/
def checkE (x : Ent) : Int := bif decide (x.1 < 0) || (decide (x.1 > 2147483647) || (!okRef x.2.1 || (decide (x.2.2.length < 2) || (decide (x.2.2.length > 8) || !okLines x.2.2)))) then 1 else
  bif fits (x.2.2.map (·.2)).sum then (bif (x.2.2.map (·.2)).sum == 0 then 0 else 12) else 2
theorem goodL.amounts {l : List Lin} (h : goodL l) : Amounts (l.map (·.2)) := by
  intro a ha
  obtain ⟨y, hy, rfl⟩ := List.mem_map.1 ha
  exact (h y hy).2.2
theorem check_is {x : Ent} (hg : goodL x.2.2) : entry_Check.f x = some (checkE x) := by
  obtain ⟨b, r, l⟩ := x
  have hg : goodL l := hg
  unfold entry_Check.f checkE
  simp only [ref_is, Option.bind_some]
  cases decide (b < 0)
  · cases decide (b > 2147483647)
    · cases okRef r
      · rfl
      · simp only [Bool.not_true, cond_false, Bool.false_or]
        by_cases h2 : l.length < 2
        · rw [decide_eq_true (show (l.length : Int) < 2 by omega), decide_eq_true h2]; rfl
        by_cases h8 : l.length > 8
        · rw [decide_eq_false (show ¬ (l.length : Int) < 2 by omega), decide_eq_true (show (l.length : Int) > 8 by omega), decide_eq_false h2, decide_eq_true h8]; rfl
        rw [decide_eq_false (show ¬ (l.length : Int) < 2 by omega), decide_eq_false (show ¬ (l.length : Int) > 8 by omega), decide_eq_false h2, decide_eq_false h8]
        obtain ⟨y, hy, hy2⟩ := lines_rounds hg (by omega) b r
        have hsum := money_Sum_is (l := l.map (·.2)) (by simp; omega) hg.amounts
        simp only [cond_false, hy, Option.bind_some, Bool.false_or]
        cases y with
        | inl y =>
          obtain ⟨h1, h2⟩ := hy2
          rw [h2]
          simp only [decide_eq_true (show y.1 ≥ 0 by omega), cond_true, Bool.not_false]
        | inr y =>
          obtain ⟨b', r', l', m⟩ := y
          obtain ⟨h1, rfl, rfl, rfl⟩ := hy2
          have h1 : okLines l' = true := h1
          have hl8 : l'.length ≤ 8 := by have : ¬ l'.length > 8 := h8; omega
          have har := amounts_rounds (l := l') (by omega) b' r' m
          simp only at har ⊢
          simp only [har, h1, Option.bind_some, Bool.not_true, cond_false]
          have fin : ((money_Sum.f (l'.map (·.2))).bind fun (x5 : Int × Int) => bif x5.2 != 0 then some x5.2 else bif x5.1 != 0 then some 12 else some (0 : Int)) = some (bif fits (l'.map (·.2)).sum then (bif (l'.map (·.2)).sum == 0 then 0 else 12) else 2) := by
            rw [hsum, Option.bind_some]
            unfold sumS
            cases fits (l'.map (·.2)).sum
            · rfl
            · simp only [cond_true, bne_self_eq_false, cond_false, bne]
              cases ((l'.map (·.2)).sum == 0) <;> rfl
          rw [← fin]
          cases l'.map (·.2) <;> rfl
    · rfl
  · rfl
end Go.Proofs.YtnnebljljmpdkaaDoor
end
section
/- The Go function bursarref12.Same, as a Lean function, and that it is this one. Written by a program of this session. -/
set_option linter.unusedVariables false
set_option maxRecDepth 100000
namespace Go.Proofs.YtnnebljljmpdkaaDoor
open Go Go.Fw
abbrev bursarref12_Same.As : Shs := (.cons (.x T_api_Entry) (.cons (.x T_api_Entry) .nil))
abbrev bursarref12_Same.m : Back := [(false, .b)]
noncomputable abbrev bursarref12_Same.H : HK := hk P G0 E0 J0 [] noLoops 4
theorem bursarref12_Same.rows : TabOK P G0 (tabF []) := rows_ok (ws := []) trivial
theorem bursarref12_Same.hok : HKOK P bursarref12_Same.H := hk_ok e0_ok j0_ok bursarref12_Same.rows (fun g n => noLoops_ok g n) 4
noncomputable abbrev bursarref12_Same.sh6 : SSh := ⟨[(2, (.pt 0 0)), (3, (.pt 1 0)), (5, (.x (.i .i64)))], [.box (.cons (.x (.i .i64)) (.cons (.x .s) (.cons (.x (.l (.g (.p (.g (.p (.i .i64) .s)) (.i .i64))))) .nil))), .box (.cons (.x (.i .i64)) (.cons (.x .s) (.cons (.x (.l (.g (.p (.g (.p (.i .i64) .s)) (.i .i64))))) .nil)))]⟩
noncomputable abbrev bursarref12_Same.os6 : PEnds := [(.ret, ⟨[(4, (.x .b))], []⟩), ((.exit 0), ⟨[], []⟩)]
noncomputable def bursarref12_Same.t6 (s : (Int × (Int × (ByteArray × ((List ((Int × ByteArray) × Int)) × (Int × (ByteArray × (List ((Int × ByteArray) × Int))))))))) : Option ((Int × (Int × (ByteArray × ((List ((Int × ByteArray) × Int)) × (Int × (ByteArray × (List ((Int × ByteArray) × Int)))))))) ⊕ (Bool ⊕ Unit)) := (bif (decide ((s.1 < ((List.length s.2.2.2.1) : Int)))) then (bif ((decide (((0 : Int) ≤ s.1))) && (decide ((s.1 < ((List.length s.2.2.2.1) : Int))))) then (bif ((decide (((0 : Int) ≤ s.1))) && (decide ((s.1 < ((List.length s.2.2.2.2.2.2) : Int))))) then (bif (!((((List.getD s.2.2.2.1 (Int.toNat s.1) (Ty.dflt T_api_Line)).1.1 == (List.getD s.2.2.2.2.2.2 (Int.toNat s.1) (Ty.dflt T_api_Line)).1.1) && (((ByteArray.toList (List.getD s.2.2.2.1 (Int.toNat s.1) (Ty.dflt T_api_Line)).1.2) == (ByteArray.toList (List.getD s.2.2.2.2.2.2 (Int.toNat s.1) (Ty.dflt T_api_Line)).1.2)) && true)) && (((List.getD s.2.2.2.1 (Int.toNat s.1) (Ty.dflt T_api_Line)).2 == (List.getD s.2.2.2.2.2.2 (Int.toNat s.1) (Ty.dflt T_api_Line)).2) && true))) then (some (.inr (.inl false))) else (some (.inl ((IntKind.wrap .i64 (s.1 + (1 : Int))), s.2)))) else none) else none) else (some (.inr (.inr ()))))
theorem bursarref12_Same.t6_ok : ∀ s : Vals bursarref12_Same.sh6.tys, turnK P bursarref12_Same.H (lp []) (bodyAt (codeOf P 12) 6) 0 bursarref12_Same.sh6 bursarref12_Same.os6 s some = bursarref12_Same.t6 s := fun s => by kernel_rfl
noncomputable def bursarref12_Same.l6 : (Int × (Int × (ByteArray × ((List ((Int × ByteArray) × Int)) × (Int × (ByteArray × (List ((Int × ByteArray) × Int)))))))) → Option (Bool ⊕ Unit) := rounds bursarref12_Same.t6
noncomputable def bursarref12_Same.f (a : ((Int × (ByteArray × (List ((Int × ByteArray) × Int)))) × (Int × (ByteArray × (List ((Int × ByteArray) × Int)))))) : Option Bool := (bif (a.1.1 != a.2.1) then (some false) else (bif (!((ByteArray.toList a.1.2.1) == (ByteArray.toList a.2.2.1))) then (some false) else (bif (((List.length a.1.2.2) : Int) != ((List.length a.2.2.2) : Int)) then (some false) else (((bursarref12_Same.l6 ((0 : Int), (a.1.1, (a.1.2.1, (a.1.2.2, a.2)))))).bind fun (x2 : (Bool ⊕ PUnit)) => (match x2 with | .inl x3 => (some x3) | .inr x3 => (some true))))))
theorem bursarref12_Same.ok : ∀ a : Vals bursarref12_Same.As.tys, fnK P bursarref12_Same.H (lp [(6, (NodeT.summ ⟨bursarref12_Same.sh6, bursarref12_Same.os6, bursarref12_Same.l6⟩ 0))]) 12 bursarref12_Same.As bursarref12_Same.m a some = bursarref12_Same.f a := fun a => by kernel_rfl
noncomputable abbrev bursarref12_Same.row : Row := fnRow 12 bursarref12_Same.As bursarref12_Same.m bursarref12_Same.f
theorem bursarref12_Same.row_ok : RowOK P G0 bursarref12_Same.row := row_told bursarref12_Same.hok (lp_of (l := [(6, (NodeT.summ ⟨bursarref12_Same.sh6, bursarref12_Same.os6, bursarref12_Same.l6⟩ 0))]) ⟨(loop_sum bursarref12_Same.hok (by kernel_rfl) (by kernel_rfl) (l := []) trivial bursarref12_Same.sh6 bursarref12_Same.os6 (by kernel_rfl) bursarref12_Same.t6 bursarref12_Same.t6_ok), trivial⟩) (fun _ => rfl) bursarref12_Same.ok
end Go.Proofs.YtnnebljljmpdkaaDoor
end
section
/- The Go function entry.On, as a Lean function, and that it is this one. Written by a program of this session. -/
set_option linter.unusedVariables false
set_option maxRecDepth 100000
namespace Go.Proofs.YtnnebljljmpdkaaDoor
open Go Go.Fw
abbrev entry_On.As : Shs := (.cons (.x T_api_Entry) (.cons (.x T_api_Account) .nil))
abbrev entry_On.m : Back := [(false, (.i .i64))]
noncomputable abbrev entry_On.H : HK := hk P G0 E0 J0 [] noLoops 4
theorem entry_On.rows : TabOK P G0 (tabF []) := rows_ok (ws := []) trivial
theorem entry_On.hok : HKOK P entry_On.H := hk_ok e0_ok j0_ok entry_On.rows (fun g n => noLoops_ok g n) 4
noncomputable abbrev entry_On.shi0 : SSh := ⟨[(0, (.x (.l (.g (.p (.g (.p (.i .i64) .s)) (.i .i64)))))), (1, (.fn 26 (.cons (.pt 1 0) .nil))), (7, (.x (.i .i64))), (8, (.x (.i .i64)))], [.box (.cons (.x (.i .i64)) (.cons (.x .s) (.cons (.x (.l (.g (.p (.g (.p (.i .i64) .s)) (.i .i64))))) .nil))), .box (.cons (.x (.i .i64)) (.cons (.x .s) .nil))]⟩
noncomputable abbrev entry_On.osi0 : PEnds := [(.ret, ⟨[(4, (.x (.i .i64)))], [.box (.cons (.x (.i .i64)) (.cons (.x .s) (.cons (.x (.l (.g (.p (.g (.p (.i .i64) .s)) (.i .i64))))) .nil))), .box (.cons (.x (.i .i64)) (.cons (.x .s) .nil))]⟩), ((.exit 0), ⟨[], [.box (.cons (.x (.i .i64)) (.cons (.x .s) (.cons (.x (.l (.g (.p (.g (.p (.i .i64) .s)) (.i .i64))))) .nil))), .box (.cons (.x (.i .i64)) (.cons (.x .s) .nil))]⟩)]
noncomputable def entry_On.ti0 (s : ((List ((Int × ByteArray) × Int)) × (Int × (Int × (Int × (ByteArray × ((List ((Int × ByteArray) × Int)) × (Int × ByteArray)))))))) : Option (((List ((Int × ByteArray) × Int)) × (Int × (Int × (Int × (ByteArray × ((List ((Int × ByteArray) × Int)) × (Int × ByteArray))))))) ⊕ ((Int × (Int × (ByteArray × ((List ((Int × ByteArray) × Int)) × (Int × ByteArray))))) ⊕ (Int × (ByteArray × ((List ((Int × ByteArray) × Int)) × (Int × ByteArray)))))) := (bif (decide ((s.2.2.1 < s.2.1))) then (bif ((decide (((0 : Int) ≤ s.2.2.1))) && (decide ((s.2.2.1 < ((List.length s.1) : Int))))) then (bif (((List.getD s.1 (Int.toNat s.2.2.1) (Ty.dflt T_api_Line)).1.1 == s.2.2.2.2.2.2.1) && (((ByteArray.toList (List.getD s.1 (Int.toNat s.2.2.1) (Ty.dflt T_api_Line)).1.2) == (ByteArray.toList s.2.2.2.2.2.2.2)) && true)) then (some (.inr (.inl s.2.2))) else (some (.inl (s.1, (s.2.1, ((IntKind.wrap .i64 (s.2.2.1 + (1 : Int))), s.2.2.2)))))) else none) else (some (.inr (.inr s.2.2.2))))
theorem entry_On.ti0_ok : ∀ s : Vals entry_On.shi0.tys, turnK P entry_On.H (lp []) (bodyAt (codeOf P 25) 3) 2 entry_On.shi0 entry_On.osi0 s some = entry_On.ti0 s := fun s => by kernel_rfl
noncomputable def entry_On.li0 : ((List ((Int × ByteArray) × Int)) × (Int × (Int × (Int × (ByteArray × ((List ((Int × ByteArray) × Int)) × (Int × ByteArray))))))) → Option ((Int × (Int × (ByteArray × ((List ((Int × ByteArray) × Int)) × (Int × ByteArray))))) ⊕ (Int × (ByteArray × ((List ((Int × ByteArray) × Int)) × (Int × ByteArray))))) := rounds entry_On.ti0
noncomputable abbrev entry_On.L1 : ILp := [(25, 2, [(3, (NodeT.summ ⟨entry_On.shi0, entry_On.osi0, entry_On.li0⟩ 2))])]
theorem entry_On.L1ok : ILpOK P G0 entry_On.L1 := ⟨⟨(loop_sum entry_On.hok (by kernel_rfl) (by kernel_rfl) (l := []) trivial entry_On.shi0 entry_On.osi0 (by kernel_rfl) entry_On.ti0 entry_On.ti0_ok), trivial⟩, trivial⟩
noncomputable abbrev entry_On.H1 : HK := hk P G0 E0 J0 [] (ilp entry_On.L1) 4
theorem entry_On.hok1 : HKOK P entry_On.H1 := hk_ok e0_ok j0_ok entry_On.rows (fun g n => ilp_ok entry_On.L1ok g n) 4
noncomputable def entry_On.f (a : ((Int × (ByteArray × (List ((Int × ByteArray) × Int)))) × (Int × ByteArray))) : Option Int := (((entry_On.li0 (a.1.2.2, (((List.length a.1.2.2) : Int), ((0 : Int), (a.1.1, (a.1.2.1, (a.1.2.2, a.2)))))))).bind fun (x2 : ((Int × (Int × (ByteArray × ((List ((Int × ByteArray) × Int)) × (Int × ByteArray))))) ⊕ (Int × (ByteArray × ((List ((Int × ByteArray) × Int)) × (Int × ByteArray)))))) => (match x2 with | .inl x3 => (bif (decide ((x3.1 < (0 : Int)))) then (some (0 : Int)) else (bif ((decide (((0 : Int) ≤ x3.1))) && (decide ((x3.1 < ((List.length x3.2.2.2.1) : Int))))) then (some (List.getD x3.2.2.2.1 (Int.toNat x3.1) (Ty.dflt T_api_Line)).2) else none)) | .inr x3 => (some (0 : Int))))
theorem entry_On.ok : ∀ a : Vals entry_On.As.tys, fnK P entry_On.H1 (lp []) 13 entry_On.As entry_On.m a some = entry_On.f a := fun a => by kernel_rfl
noncomputable abbrev entry_On.row : Row := fnRow 13 entry_On.As entry_On.m entry_On.f
theorem entry_On.row_ok : RowOK P G0 entry_On.row := row_told entry_On.hok1 (lp_of (l := []) trivial) (fun _ => rfl) entry_On.ok
end Go.Proofs.YtnnebljljmpdkaaDoor
end
section
/- The Go function entry.made, as a Lean function, and that it is this one. Written by a program of this session. -/
set_option linter.unusedVariables false
set_option maxRecDepth 100000
namespace Go.Proofs.YtnnebljljmpdkaaDoor
open Go Go.Fw
abbrev entry_made.As : Shs := (.cons (.x T_api_Entry) .nil)
abbrev entry_made.m : Back := [(false, T_api_Entry), (false, (.i .i64))]
noncomputable abbrev entry_made.H : HK := hk P G0 E0 J0 [entry_Check.row] noLoops 4
theorem entry_made.rows : TabOK P G0 (tabF [entry_Check.row]) := rows_ok (ws := [entry_Check.row]) ⟨entry_Check.row_ok, trivial⟩
theorem entry_made.hok : HKOK P entry_made.H := hk_ok e0_ok j0_ok entry_made.rows (fun g n => noLoops_ok g n) 4
noncomputable def entry_made.f (a : (Int × (ByteArray × (List ((Int × ByteArray) × Int))))) : Option ((Int × (ByteArray × (List ((Int × ByteArray) × Int)))) × Int) := (((entry_Check.f a)).bind fun (x1 : Int) => (bif (x1 != (0 : Int)) then (some (((0 : Int), ((bs []), [])), x1)) else (some (a, (0 : Int)))))
theorem entry_made.ok : ∀ a : Vals entry_made.As.tys, fnK P entry_made.H (lp []) 23 entry_made.As entry_made.m a some = entry_made.f a := fun a => by kernel_rfl
noncomputable abbrev entry_made.row : Row := fnRow 23 entry_made.As entry_made.m entry_made.f
theorem entry_made.row_ok : RowOK P G0 entry_made.row := row_told entry_made.hok (lp_of (l := []) trivial) (fun _ => rfl) entry_made.ok
end Go.Proofs.YtnnebljljmpdkaaDoor
end
section
/- The Go function entry.Move, as a Lean function, and that it is this one. Written by a program of this session. -/
set_option linter.unusedVariables false
set_option maxRecDepth 100000
namespace Go.Proofs.YtnnebljljmpdkaaDoor
open Go Go.Fw
abbrev entry_Move.As : Shs := (.cons (.x (.i .i64)) (.cons (.x .s) (.cons (.x T_api_Account) (.cons (.x T_api_Account) (.cons (.x (.i .i64)) .nil)))))
abbrev entry_Move.m : Back := [(false, T_api_Entry), (false, (.i .i64))]
noncomputable abbrev entry_Move.H : HK := hk P G0 E0 J0 [money_Sub.row, entry_made.row] noLoops 4
theorem entry_Move.rows : TabOK P G0 (tabF [money_Sub.row, entry_made.row]) := rows_ok (ws := [money_Sub.row, entry_made.row]) ⟨money_Sub.row_ok, ⟨entry_made.row_ok, trivial⟩⟩
theorem entry_Move.hok : HKOK P entry_Move.H := hk_ok e0_ok j0_ok entry_Move.rows (fun g n => noLoops_ok g n) 4
noncomputable def entry_Move.f (a : (Int × (ByteArray × ((Int × ByteArray) × ((Int × ByteArray) × Int))))) : Option ((Int × (ByteArray × (List ((Int × ByteArray) × Int)))) × Int) := (((money_Sub.f ((0 : Int), a.2.2.2.2))).bind fun (x5 : (Int × Int)) => (bif (x5.2 != (0 : Int)) then (some (((0 : Int), ((bs []), [])), x5.2)) else (((entry_made.f (a.1, (a.2.1, ((a.2.2.1, x5.1) :: (a.2.2.2 :: [])))))).bind fun (x6 : ((Int × (ByteArray × (List ((Int × ByteArray) × Int)))) × Int)) => (some x6))))
theorem entry_Move.ok : ∀ a : Vals entry_Move.As.tys, fnK P entry_Move.H (lp []) 7 entry_Move.As entry_Move.m a some = entry_Move.f a := fun a => by kernel_rfl
noncomputable abbrev entry_Move.row : Row := fnRow 7 entry_Move.As entry_Move.m entry_Move.f
theorem entry_Move.row_ok : RowOK P G0 entry_Move.row := row_told entry_Move.hok (lp_of (l := []) trivial) (fun _ => rfl) entry_Move.ok
end Go.Proofs.YtnnebljljmpdkaaDoor
end
section
/- The Go function bursarlaw12.none, as a Lean function, and that it is this one. Written by a program of this session. -/
set_option linter.unusedVariables false
set_option maxRecDepth 100000
namespace Go.Proofs.YtnnebljljmpdkaaDoor
open Go Go.Fw
abbrev bursarlaw12_none.As : Shs := (.cons (.x T_api_Entry) .nil)
abbrev bursarlaw12_none.m : Back := [(false, .b)]
noncomputable abbrev bursarlaw12_none.H : HK := hk P G0 E0 J0 [] noLoops 4
theorem bursarlaw12_none.rows : TabOK P G0 (tabF []) := rows_ok (ws := []) trivial
theorem bursarlaw12_none.hok : HKOK P bursarlaw12_none.H := hk_ok e0_ok j0_ok bursarlaw12_none.rows (fun g n => noLoops_ok g n) 4
noncomputable def bursarlaw12_none.f (a : (Int × (ByteArray × (List ((Int × ByteArray) × Int))))) : Option Bool := (bif (a.1 == (0 : Int)) then (bif ((ByteArray.toList a.2.1) == []) then (some (((List.length a.2.2) : Int) == (0 : Int))) else (some false)) else (some false))
theorem bursarlaw12_none.ok : ∀ a : Vals bursarlaw12_none.As.tys, fnK P bursarlaw12_none.H (lp []) 9 bursarlaw12_none.As bursarlaw12_none.m a some = bursarlaw12_none.f a := fun a => by kernel_rfl
noncomputable abbrev bursarlaw12_none.row : Row := fnRow 9 bursarlaw12_none.As bursarlaw12_none.m bursarlaw12_none.f
theorem bursarlaw12_none.row_ok : RowOK P G0 bursarlaw12_none.row := row_told bursarlaw12_none.hok (lp_of (l := []) trivial) (fun _ => rfl) bursarlaw12_none.ok
end Go.Proofs.YtnnebljljmpdkaaDoor
end
section
/- Small things about the library's contracts. By this session. -/
set_option linter.unusedVariables false
namespace Go.Proofs.YtnnebljljmpdkaaDoor
open Go Go.Fw Go.RowKit
theorem grow_below (w : World) (k : Nat) (os : Array Obj) : Below w.heap.size w (Sort.grow (w.drewN k) os) := by
  have h : Below w.heap.size w (w.drewN k) := by
    induction k with
    | zero => rw [World.drewN_zero]; exact .refl _ _
    | succ k ih => exact ⟨rfl, rfl, rfl, Nat.le_refl _, fun _ _ => rfl⟩
  exact h.trans ⟨rfl, rfl, rfl, by simp [Sort.grow], fun i hi => by
    show ((w.drewN k).heap ++ os)[i]? = _
    rw [Array.getElem?_append, if_pos (Nat.lt_of_lt_of_le hi h.size)]⟩
theorem ent_of {g : FuncId} {fn : Func} (h : P.funcs[g]? = some fn) (hn : (fn.name == "runtime.NumGoroutine") = false) (hb : fn.body.isNone = false) : Fw.Enters P g := ⟨fn, h, hn, hb⟩
/-- a call that leaves what was there as it was, and what is known of the memory -/
theorem pcall_belowI {G : Nat → Option (List D)} {g : FuncId} {ds : List D} {r : D}
    (h : ∀ (w : World) (I K : Mem) (vs : Array Value), Glob ⟨w, I, K, fun _ => 0, fun _ => 0, G⟩ → (∀ b, I b → b < w.heap.size) → (∀ b, K b → b < w.heap.size) → vs.size = ds.length → (∀ (j : Nat) (d : D), ds[j]? = some d → RelD w I d (vs.getD j undef)) →
      Calls P g vs w fun e w' => ∃ v, e = .returned v ∧ Below w.heap.size w w' ∧ RelX w' I K r v) : PCall P G g ds r := by
  intro w I K vs hg hI hK hd hsz hargs
  refine (h w I K vs hg hI hK hsz hargs).mono ?_
  rintro e w' ⟨v, rfl, hb, hx⟩
  refine ⟨v, I, rfl, hb.size, fun b hb' => ⟨hb', hb.block b (hI b hb')⟩, fun b hb' => hb.block b (hK b hb'), fun b hb' => ⟨Nat.lt_of_lt_of_le (hI b hb') hb.size, hd b hb'⟩, fun b cs e fz hc => ⟨cs, ?_, rfl⟩, hb.os, hb.tape, hb.output, hx⟩
  rw [hb.block b (Array.getElem?_eq_some_iff.1 hc).1]
  exact hc
theorem alloc_below (w : World) (o : Obj) : Below w.heap.size w (w.alloc o) := ⟨rfl, rfl, rfl, by show w.heap.size ≤ (w.heap.push _).size; simp, fun i hi => by
  show (w.heap.push o)[i]? = _
  rw [Array.getElem?_push, if_neg (by omega)]⟩
/-- a row of one-cell data in a new block -/
theorem frOK_alloc {w : World} {I K : Mem} {xs : List D} {vs : List Value} {t : TypeId} (hI : ∀ b, I b → b < w.heap.size) (hK : ∀ b, K b → b < w.heap.size) (hl : xs.length = vs.length) (hw : ∀ x ∈ xs, x.cells = [x]) (h1 : ∀ v ∈ vs, v.oneCell' = true)
    (h : ∀ (j : Nat) (d : D), xs[j]? = some d → RelD (w.alloc (.cells vs.toArray t)) I d (vs.toArray.getD j undef)) : FrOK (w.alloc (.cells vs.toArray t)) I K 1 xs (.slice (some ⟨w.heap.size, 0, none⟩) xs.length xs.length) := by
  have hh : (w.alloc (.cells vs.toArray t)).heap[w.heap.size]? = some (.cells vs.toArray t) := by
    show (w.heap.push _)[w.heap.size]? = _
    rw [Array.getElem?_push, if_pos rfl]
  refine ⟨_, _, rfl, Nat.le_refl _, rfl, .inl rfl, fun hb => Nat.lt_irrefl _ (hI _ hb), fun hb => Nat.lt_irrefl _ (hK _ hb), ⟨rfl, vs.toArray, t, _, hh, fun o _ ho => by omega, fun x hx => by simp [D.width, hw x hx], by omega, by simp [hl], fun j hj => ?_, fun j k x d hx hd => ?_⟩, _, _, _, hh, by simp [hl], by simp⟩
  · have hj' : j < vs.length := by omega
    rw [Array.getD_eq_getD_getElem?]
    simp only [List.getElem?_toArray, List.getElem?_eq_getElem hj', Option.getD_some]
    exact h1 _ (List.getElem_mem hj')
  · have hm : x ∈ xs := List.mem_of_getElem? hx
    rw [hw x hm] at hd
    cases k with
    | zero =>
      simp only [List.getElem?_cons_zero, Option.some.injEq] at hd
      subst hd
      have := h j x hx
      rw [show j * 1 + 0 = j by omega]
      exact this
    | succ k => simp at hd
end Go.Proofs.YtnnebljljmpdkaaDoor
end
section
/- Contracts of the library at this program, in plain words. Written by a tool of the kit.
-/
namespace Go.Proofs
open Go.Shelf
def Tryd.laysM171_ren : Go.Shelf.Ren := ⟨fun | 171 => 27 | 243 => 49 | 246 => 66 | 283 => 81 | 284 => 82 | 285 => 83 | 286 => 84 | 129 => 100 | 317 => 99 | 318 => 101 | 319 => 102 | 320 => 103 | 337 => 107 | 338 => 108 | n => n, fun | 3 => 3 | 9 => 9 | 2 => 2 | 4 => 4 | 171 => 116 | 0 => 0 | 53 => 89 | 37 => 104 | 5 => 5 | 173 => 119 | 212 => 133 | 51 => 134 | 20 => 20 | 213 => 135 | 46 => 97 | 232 => 149 | 233 => 150 | n => n, fun | 17 => 3 | 18 => 6 | 19 => 7 | n => n⟩
theorem Tryd.laysM171 : Go.Proofs.LaysM.n171 Tryd.prog Tryd.laysM171_ren := {
  mixed := by kernel_rfl
  f129 := Tryd.func100.trans (congrArg some (by kernel_rfl))
  f171 := Tryd.func27.trans (congrArg some (by kernel_rfl))
  f243 := Tryd.func49.trans (congrArg some (by kernel_rfl))
  f246 := Tryd.func66.trans (congrArg some (by kernel_rfl))
  f283 := Tryd.func81.trans (congrArg some (by kernel_rfl))
  f284 := Tryd.func82.trans (congrArg some (by kernel_rfl))
  f285 := Tryd.func83.trans (congrArg some (by kernel_rfl))
  f286 := Tryd.func84.trans (congrArg some (by kernel_rfl))
  f317 := Tryd.func99.trans (congrArg some (by kernel_rfl))
  f318 := Tryd.func101.trans (congrArg some (by kernel_rfl))
  f319 := Tryd.func102.trans (congrArg some (by kernel_rfl))
  f320 := Tryd.func103.trans (congrArg some (by kernel_rfl))
  f337 := Tryd.func107.trans (congrArg some (by kernel_rfl))
  f338 := Tryd.func108.trans (congrArg some (by kernel_rfl))
  t0 := Tryd.underlying0
  a0 := Tryd.isAgg0
  z0 := Tryd.sizeOf0
  v0 := Tryd.zeroValue0
  t2 := Tryd.underlying2
  a2 := Tryd.isAgg2
  z2 := Tryd.sizeOf2
  v2 := Tryd.zeroValue2
  t3 := Tryd.underlying3
  a3 := Tryd.isAgg3
  z3 := Tryd.sizeOf3
  v3 := Tryd.zeroValue3
  t4 := Tryd.underlying4
  a4 := Tryd.isAgg4
  z4 := Tryd.sizeOf4
  v4 := Tryd.zeroValue4
  t5 := Tryd.underlying5
  a5 := Tryd.isAgg5
  z5 := Tryd.sizeOf5
  v5 := Tryd.zeroValue5
  t9 := Tryd.underlying9
  a9 := Tryd.isAgg9
  z9 := Tryd.sizeOf9
  v9 := Tryd.zeroValue9
  t20 := Tryd.underlying20
  a20 := Tryd.isAgg20
  z20 := Tryd.sizeOf20
  v20 := Tryd.zeroValue20
  t37 := Tryd.underlying104
  a37 := Tryd.isAgg104
  z37 := Tryd.sizeOf104
  v37 := Tryd.zeroValue104
  t46 := Tryd.underlying97
  a46 := Tryd.isAgg97
  z46 := Tryd.sizeOf97
  v46 := Tryd.zeroValue97
  t51 := Tryd.underlying134
  a51 := Tryd.isAgg134
  z51 := Tryd.sizeOf134
  v51 := Tryd.zeroValue134
  t53 := Tryd.underlying89
  a53 := Tryd.isAgg89
  z53 := Tryd.sizeOf89
  v53 := Tryd.zeroValue89
  t171 := Tryd.underlying116
  a171 := Tryd.isAgg116
  z171 := Tryd.sizeOf116
  v171 := Tryd.zeroValue116
  t173 := Tryd.underlying119
  a173 := Tryd.isAgg119
  z173 := Tryd.sizeOf119
  v173 := Tryd.zeroValue119
  t212 := Tryd.underlying133
  a212 := Tryd.isAgg133
  z212 := Tryd.sizeOf133
  v212 := Tryd.zeroValue133
  t213 := Tryd.underlying135
  a213 := Tryd.isAgg135
  z213 := Tryd.sizeOf135
  t232 := Tryd.underlying149
  a232 := Tryd.isAgg149
  z232 := Tryd.sizeOf149
  v232 := Tryd.zeroValue149
  t233 := Tryd.underlying150
  a233 := Tryd.isAgg150
  z233 := Tryd.sizeOf150
  v233 := Tryd.zeroValue150
  g17 := by kernel_rfl
  g18 := by kernel_rfl
  g19 := by kernel_rfl
  i0 := by kernel_rfl
  i2 := by kernel_rfl
  i3 := by kernel_rfl
  i4 := by kernel_rfl
  i5 := by kernel_rfl
  i9 := by kernel_rfl
  i20 := by kernel_rfl
  i37 := by kernel_rfl
  i46 := by kernel_rfl
  i51 := by kernel_rfl
  i53 := by kernel_rfl
  i171 := by kernel_rfl
  i173 := by kernel_rfl
  i212 := by kernel_rfl
  i232 := by kernel_rfl
  i233 := by kernel_rfl
  m17 := by kernel_rfl
  m18 := by kernel_rfl
  m19 := by kernel_rfl }
end Go.Proofs
end
section
/- strconv.Itoa, as a row, by the library's contracts. By this session. -/
set_option linter.unusedVariables false
namespace Go.Proofs.YtnnebljljmpdkaaDoor
open Go Go.Fw Go.RowKit Go.Shelf
/-- a number's digits, with its sign -/
def itoaI (n : Int) : List UInt8 := bif decide (n < 0) then 45 :: decF 20 n.natAbs else decF 20 n.toNat
abbrev strconv_Itoa.As : Shs := .cons (.x (.i .i64)) .nil
abbrev strconv_Itoa.m : Back := [(false, .s)]
abbrev strconv_Itoa.f (a : Int) : Option ByteArray := bif decide (-9223372036854775808 ≤ a) && decide (a ≤ 9223372036854775807) then some (bs (itoaI a)) else none
noncomputable abbrev strconv_Itoa.row : Row := fnRow 27 strconv_Itoa.As strconv_Itoa.m strconv_Itoa.f
theorem itoaI_is {n : Int} (h0 : -9223372036854775808 ≤ n) (h1 : n ≤ 9223372036854775807) : itoaI n = Lib.itoa n := by
  unfold itoaI Lib.itoa
  rw [decF_is 19 _ (by omega)]
  by_cases h : n < 0
  · simp [h]
  · simp only [h, decide_false, cond_false, if_false]
    exact decF_is 19 _ (by omega)
theorem strconv_Itoa.row_ok : RowOK P G0 strconv_Itoa.row := by
  have key : ∀ (ds : List D) (a : Int) (q : ByteArray), decArgs strconv_Itoa.As ds = some a → strconv_Itoa.f a = some q → Fw.Enters P 27 ∧ PCall P G0 27 ds (.s q) := by
    intro ds a q ha hq
    refine ⟨ent_of Tryd.func27 (by kernel_rfl) (by kernel_rfl), ?_⟩
    have hds := (decArgs_argD ha).symm
    refine PCall.coe (ds' := argD strconv_Itoa.As a) ?_ (by rw [← hds]; exact coeA_len) fun w I f hf => by rw [← hds]; exact coeA_rel hf
    refine pcall_below fun w I K vs hg hsz hr => ?_
    have h0 := hr 0 (.i .i64 a) rfl
    have hvs : vs = #[.int .i64 a] := by
      have hs : vs.size = 1 := hsz
      rw [Array.getD_eq_getD_getElem?, Array.getElem?_eq_getElem (by omega)] at h0
      simp only [Option.getD_some] at h0
      refine Array.ext (by simpa using hs) fun i hi hi' => ?_
      match i, hi with
      | 0, _ => cases h : vs[0] <;> rw [h] at h0 <;> cases h0; rfl
      | i + 1, hi => omega
    subst hvs
    unfold strconv_Itoa.f at hq
    obtain ⟨hb, hq⟩ := cond_some hq
    simp only [Bool.and_eq_true, decide_eq_true_eq] at hb
    injection hq with hq
    subst hq
    refine (Any.strconv_Itoa Tryd.laysM171 a hb.1 hb.2 w (tab_of_glob hg (g := 3) (by kernel_rfl) rfl)).mono ?_
    rintro e w' ⟨rfl, k, os, rfl⟩
    refine ⟨_, rfl, grow_below w k os, ?_⟩
    rw [itoaI_is hb.1 hb.2]
    exact RelD.s _
  exact fun ds a q => key ds a q
end Go.Proofs.YtnnebljljmpdkaaDoor
end
section
/- The Go function chart.letters, as a Lean function, and that it is this one. Written by a program of this session. -/
set_option linter.unusedVariables false
set_option maxRecDepth 100000
namespace Go.Proofs.YtnnebljljmpdkaaDoor
open Go Go.Fw
abbrev chart_letters.row : Row := closedRow 50 (.ag [.s (bs []), .s (bs [67]), .s (bs [65]), .s (bs [72]), .s (bs [68])])
theorem chart_letters.row_ok : RowOK P G0 chart_letters.row := closed_ok e0_ok j0_ok (T := []) trivial 60 (by kernel_rfl)
end Go.Proofs.YtnnebljljmpdkaaDoor
end
section
/- Contracts of the library at this program, in plain words. Written by a tool of the kit.
-/
namespace Go.Proofs
open Go.Shelf
def Tryd.lays283_ren : Go.Shelf.Ren := ⟨fun | 283 => 81 | n => n, fun | 3 => 3 | 9 => 9 | 4 => 4 | n => n, fun | n => n⟩
theorem Tryd.lays283 : Go.Proofs.Lays.n283 Tryd.prog Tryd.lays283_ren := {
  mixed := by kernel_rfl
  f283 := Tryd.func81.trans (congrArg some (by kernel_rfl))
  t3 := Tryd.underlying3
  a3 := Tryd.isAgg3
  z3 := Tryd.sizeOf3
  v3 := Tryd.zeroValue3
  t4 := Tryd.underlying4
  a4 := Tryd.isAgg4
  z4 := Tryd.sizeOf4
  v4 := Tryd.zeroValue4
  t9 := Tryd.underlying9
  a9 := Tryd.isAgg9
  z9 := Tryd.sizeOf9
  v9 := Tryd.zeroValue9 }
def Tryd.laysM284_ren : Go.Shelf.Ren := ⟨fun | 284 => 82 | 129 => 100 | 317 => 99 | 318 => 101 | n => n, fun | 53 => 89 | 3 => 3 | 212 => 133 | 0 => 0 | 4 => 4 | 46 => 97 | 5 => 5 | 9 => 9 | n => n, fun | 17 => 3 | n => n⟩
theorem Tryd.laysM284 : Go.Proofs.LaysM.n284 Tryd.prog Tryd.laysM284_ren := {
  mixed := by kernel_rfl
  f129 := Tryd.func100.trans (congrArg some (by kernel_rfl))
  f284 := Tryd.func82.trans (congrArg some (by kernel_rfl))
  f317 := Tryd.func99.trans (congrArg some (by kernel_rfl))
  f318 := Tryd.func101.trans (congrArg some (by kernel_rfl))
  t0 := Tryd.underlying0
  a0 := Tryd.isAgg0
  z0 := Tryd.sizeOf0
  v0 := Tryd.zeroValue0
  t3 := Tryd.underlying3
  a3 := Tryd.isAgg3
  z3 := Tryd.sizeOf3
  v3 := Tryd.zeroValue3
  t4 := Tryd.underlying4
  a4 := Tryd.isAgg4
  z4 := Tryd.sizeOf4
  v4 := Tryd.zeroValue4
  t5 := Tryd.underlying5
  a5 := Tryd.isAgg5
  z5 := Tryd.sizeOf5
  v5 := Tryd.zeroValue5
  t9 := Tryd.underlying9
  a9 := Tryd.isAgg9
  z9 := Tryd.sizeOf9
  v9 := Tryd.zeroValue9
  t46 := Tryd.underlying97
  a46 := Tryd.isAgg97
  z46 := Tryd.sizeOf97
  v46 := Tryd.zeroValue97
  t53 := Tryd.underlying89
  a53 := Tryd.isAgg89
  z53 := Tryd.sizeOf89
  v53 := Tryd.zeroValue89
  t212 := Tryd.underlying133
  a212 := Tryd.isAgg133
  z212 := Tryd.sizeOf133
  v212 := Tryd.zeroValue133
  g17 := by kernel_rfl
  i0 := by kernel_rfl
  i3 := by kernel_rfl
  i4 := by kernel_rfl
  i5 := by kernel_rfl
  i9 := by kernel_rfl
  i46 := by kernel_rfl
  i53 := by kernel_rfl
  i212 := by kernel_rfl
  m17 := by kernel_rfl }
def Tryd.lays285_ren : Go.Shelf.Ren := ⟨fun | 285 => 83 | n => n, fun | 37 => 104 | 53 => 89 | 3 => 3 | 4 => 4 | 51 => 134 | 9 => 9 | 5 => 5 | 0 => 0 | n => n, fun | n => n⟩
theorem Tryd.lays285 : Go.Proofs.Lays.n285 Tryd.prog Tryd.lays285_ren := {
  mixed := by kernel_rfl
  f285 := Tryd.func83.trans (congrArg some (by kernel_rfl))
  t0 := Tryd.underlying0
  a0 := Tryd.isAgg0
  z0 := Tryd.sizeOf0
  v0 := Tryd.zeroValue0
  t3 := Tryd.underlying3
  a3 := Tryd.isAgg3
  z3 := Tryd.sizeOf3
  v3 := Tryd.zeroValue3
  t4 := Tryd.underlying4
  a4 := Tryd.isAgg4
  z4 := Tryd.sizeOf4
  v4 := Tryd.zeroValue4
  t5 := Tryd.underlying5
  a5 := Tryd.isAgg5
  z5 := Tryd.sizeOf5
  v5 := Tryd.zeroValue5
  t9 := Tryd.underlying9
  a9 := Tryd.isAgg9
  z9 := Tryd.sizeOf9
  v9 := Tryd.zeroValue9
  t37 := Tryd.underlying104
  a37 := Tryd.isAgg104
  z37 := Tryd.sizeOf104
  v37 := Tryd.zeroValue104
  t51 := Tryd.underlying134
  a51 := Tryd.isAgg134
  z51 := Tryd.sizeOf134
  v51 := Tryd.zeroValue134
  t53 := Tryd.underlying89
  a53 := Tryd.isAgg89
  z53 := Tryd.sizeOf89
  v53 := Tryd.zeroValue89 }
end Go.Proofs
end
section
/- strconv.FormatUint at base 10: the decimal digits, for every number. By this session, after the library's contract of FormatInt. -/
set_option linter.unusedVariables false
namespace Go.Proofs
open Go.Shelf Go.RowKit Go.Sort Go.Lib
theorem Tryd.holds_zero0 (w : World) (T : TypeId) (nd : Nat) (hs : nd ≤ 24) : Holds (fun (b : UInt8) => Value.int .u8 (b.toNat : Int)) (w.alloc (.cells zeros24 T)) w.heap.size 0 (Array.replicate nd (0 : UInt8)) := fun j hj => by
  have hj' : j < nd := by simpa using hj
  refine ⟨?_, World.frozen?_alloc_new _ _ _ _⟩
  rw [World.cell?_alloc_new, zeros24_at _ (by omega), getElem!_pos _ j hj]
  simp
theorem Tryd.fin0 (w : World) (o : Obj) (dk : Array UInt8) (k : Nat) : ∃ os, (putRow (fun (b : UInt8) => Value.int .u8 (b.toNat : Int)) (w.alloc o) w.heap.size 0 dk).drewN k = grow (w.drewN k) os := by
  rw [alloc_eq_grow]
  obtain ⟨os', _, e⟩ := putRow_grow_new (fun (b : UInt8) => Value.int .u8 (b.toNat : Int)) w #[o] w.heap.size 0 dk (Nat.le_refl _)
  exact ⟨os', by rw [e]; rfl⟩
set_option maxHeartbeats 6400000 in
set_option maxRecDepth 100000 in
theorem Tryd.fmtUint_in (u : Nat) (hu64 : u < 18446744073709551616) (w : World) (htab : Lib.TabIs Tryd.prog w "internal/strconv.uint64pow10" .u64 Lib.pow10Tab) :
    Calls Tryd.prog 67 #[.int .u64 u, .int .i64 10] w fun e w' => e = .returned (.string ⟨(Lib.decDigits u).toArray⟩) ∧ ∃ k os, w' = grow (w.drewN k) os := by
  by_cases hs : u < 100
  · go_enter Tryd.func67, Tryd.ntmps67
    go_wp2_with (go_at_call 81; refine (Any.internal_strconv_small Tryd.lays283 u hs _).mono ?_; rintro e w' ⟨rfl, rfl⟩)
    go_ret
    exact ⟨rfl, 0, #[], by simp [World.drewN_zero]⟩
  · have hu1 : 1 ≤ u := by omega
    have hnd20 : Lib.nDigits u ≤ 20 := by have := Lib.numDigits_eq u hu1 hu64; split at this <;> omega
    have hb3 : Lib.nDigits u ≤ 24 := by omega
    have hal : Tryd.prog.arrayLen 116 = 24 := by kernel_rfl
    have hsl1 : ∀ W, (Instr.sliceAt 116 (.pointer (some ⟨w.heap.size, 0, none⟩)) none (some (.int .i64 (Lib.nDigits u : Int))) none).run Tryd.prog W = .ok (.slice (some ⟨w.heap.size, 0, none⟩) (Lib.nDigits u) 24) W := fun W => by
      rw [run_sliceAt_array_h W 116 ⟨w.heap.size, 0, none⟩ (by simp [Program.arrayLen, Program.elem, Tryd.underlying116]) .i64 (Lib.nDigits u : Int) (by omega) (by rw [hal]; omega)]
      go_simp
    have hH0 := Tryd.holds_zero0 w 116 (Lib.nDigits u) (by omega)
    have hfmt := Any.internal_strconv_formatBase10 Tryd.lays285 w.heap.size 0 24 u (Array.replicate (Lib.nDigits u) 0) (w.alloc (.cells Lib.zeros24 116)) hH0 (by rw [Array.size_replicate]; exact Lib.lt_pow_nDigits u) hu64 (by rw [Array.size_replicate]; omega)
    rw [Array.size_replicate] at hfmt
    have HH0 := Lib.hid hH0
    clear hH0 hal
    go_enter Tryd.func67, Tryd.ntmps67
    go_wp2_with (first
      | (go_at_call 82; refine (Any.internal_strconv_numDigits Tryd.laysM284 u hu1 hu64 _ (Lib.tabIs_alloc htab _)).mono ?_; rintro e w' ⟨rfl, rfl⟩))
    go_at_call 83
    refine hfmt.mono ?_
    rintro e w' ⟨rfl, k, v', dk, rfl, hF⟩
    have hcv : (convert 104 9 (.slice (some ⟨w.heap.size, 0, none⟩) (Lib.nDigits u) 24)).run Tryd.prog ((putRow (fun (b : UInt8) => Value.int .u8 (b.toNat : Int)) (w.alloc (.cells Lib.zeros24 116)) w.heap.size 0 dk).drewN k) = .ok (.string ⟨(Lib.decDigits u).toArray⟩) ((putRow (fun (b : UInt8) => Value.int .u8 (b.toNat : Int)) (w.alloc (.cells Lib.zeros24 116)) w.heap.size 0 dk).drewN k) := by
      have h := run_convert_bytes_back (P := Tryd.prog) ((putRow (fun (b : UInt8) => Value.int .u8 (b.toNat : Int)) (w.alloc (.cells Lib.zeros24 116)) w.heap.size 0 dk).drewN k) 104 9 5 ⟨w.heap.size, 0, none⟩ 24 (Lib.decDigits u) Tryd.underlying104 Tryd.underlying5 Tryd.underlying9 (fun j hj => by
        rw [Lib.row_is_numeral hF j hj, Lib.add_plain, World.cell?_drewN]
        exact cell?_putRow (fun (b : UInt8) => Value.int .u8 (b.toNat : Int)) _ w.heap.size 0 _ dk HH0.out (by rw [hF.size, Array.size_replicate]) j (by rw [hF.size]; rw [Lib.decDigits_length] at hj; exact hj))
      rw [Lib.decDigits_length] at h
      exact h
    go_wp2
    go_ret
    obtain ⟨os, eo⟩ := Tryd.fin0 w (.cells Lib.zeros24 116) dk k
    exact ⟨rfl, k, os, eo⟩
set_option maxRecDepth 100000 in
theorem Tryd.fmtUint (u : Nat) (hu64 : u < 18446744073709551616) (w : World) (htab : Lib.TabIs Tryd.prog w "internal/strconv.uint64pow10" .u64 Lib.pow10Tab) :
    Calls Tryd.prog 52 #[.int .u64 u, .int .i64 10] w fun e w' => e = .returned (.string ⟨(Lib.decDigits u).toArray⟩) ∧ ∃ k os, w' = grow (w.drewN k) os := by
  go_enter Tryd.func52, Tryd.ntmps52
  go_wp2_with (go_at_call 67; refine (Tryd.fmtUint_in u hu64 _ htab).mono ?_; rintro e w' ⟨rfl, k, os, rfl⟩)
  go_ret
  exact ⟨rfl, k, os, rfl⟩
end Go.Proofs
end
section
/- Functions of the library, as rows, by its contracts. By this session. -/
set_option linter.unusedVariables false
namespace Go.Proofs.YtnnebljljmpdkaaDoor
open Go Go.Fw Go.RowKit
/-! FormatUint -/
abbrev strconv_FormatUint.As : Shs := .cons (.x (.i .u64)) (.cons (.x (.i .i64)) .nil)
abbrev strconv_FormatUint.m : Back := [(false, .s)]
abbrev strconv_FormatUint.f (a : (Int × Int)) : Option ByteArray := fmtU a
noncomputable abbrev strconv_FormatUint.row : Row := fnRow 52 strconv_FormatUint.As strconv_FormatUint.m strconv_FormatUint.f
theorem strconv_FormatUint.row_ok : RowOK P G0 strconv_FormatUint.row := by
  have key : ∀ (ds : List D) (a : Int × Int) (q : ByteArray), decArgs strconv_FormatUint.As ds = some a → strconv_FormatUint.f a = some q → Fw.Enters P 52 ∧ PCall P G0 52 ds (.s q) := by
    intro ds a q ha hq
    refine ⟨ent_of Tryd.func52 (by kernel_rfl) (by kernel_rfl), ?_⟩
    have hds := (decArgs_argD ha).symm
    refine PCall.coe (ds' := argD strconv_FormatUint.As a) ?_ (by rw [← hds]; exact coeA_len) fun w I f hf => by rw [← hds]; exact coeA_rel hf
    refine pcall_below fun w I K vs hg hsz hr => ?_
    have h0 := hr 0 (.i .u64 a.1) rfl
    have h1 := hr 1 (.i .i64 a.2) rfl
    have hvs : vs = #[.int .u64 a.1, .int .i64 a.2] := by
      have hs : vs.size = 2 := hsz
      rw [Array.getD_eq_getD_getElem?, Array.getElem?_eq_getElem (by omega)] at h0 h1
      simp only [Option.getD_some] at h0 h1
      refine Array.ext (by simpa using hs) fun i hi hi' => ?_
      match i, hi with
      | 0, _ => cases h : vs[0] <;> rw [h] at h0 <;> cases h0; rfl
      | 1, _ => cases h : vs[1] <;> rw [h] at h1 <;> cases h1; rfl
      | i + 2, hi => omega
    subst hvs
    unfold strconv_FormatUint.f fmtU at hq
    obtain ⟨hb, hq⟩ := cond_some hq
    simp only [Bool.and_eq_true, decide_eq_true_eq] at hb
    obtain ⟨⟨h2, h3⟩, h4⟩ := hb
    injection hq with hq
    subst hq
    obtain ⟨u, hu⟩ : ∃ u : Nat, a.1 = u := ⟨a.1.toNat, by omega⟩
    rw [hu, h4]
    refine (Tryd.fmtUint u (by omega) w (tab_of_glob hg (g := 3) (by kernel_rfl) rfl)).mono ?_
    rintro e w' ⟨rfl, k, os, rfl⟩
    refine ⟨_, rfl, grow_below w k os, ?_⟩
    rw [decF_is 19 _ (by omega)]
    exact RelD.s _
  exact fun ds a q => key ds a q
end Go.Proofs.YtnnebljljmpdkaaDoor
end
section
/- The Go function bursarlaw12.awake, as a Lean function, and that it is this one. Written by a program of this session. -/
set_option linter.unusedVariables false
set_option maxRecDepth 100000
namespace Go.Proofs.YtnnebljljmpdkaaDoor
open Go Go.Fw
abbrev bursarlaw12_awake.row : Row := closedRow 10 (.b true)
theorem bursarlaw12_awake.row_ok : RowOK P G0 bursarlaw12_awake.row := closed_ok e0_ok j0_ok (T := [strconv_Itoa.row, chart_letters.row, strconv_FormatUint.row]) ⟨strconv_Itoa.row_ok, ⟨chart_letters.row_ok, ⟨strconv_FormatUint.row_ok, trivial⟩⟩⟩ 200 (by kernel_rfl)
end Go.Proofs.YtnnebljljmpdkaaDoor
end
section
/- The Go function bursarlaw12.EntryMoves, as a Lean function, and that it is this one. Written by a program of this session. -/
set_option linter.unusedVariables false
set_option maxRecDepth 100000
namespace Go.Proofs.YtnnebljljmpdkaaDoor
open Go Go.Fw
abbrev bursarlaw12_EntryMoves.As : Shs := (.cons (.x T_bursarlaw12_Moved) (.cons (.x T_api_Account) .nil))
abbrev bursarlaw12_EntryMoves.m : Back := [(false, .b)]
noncomputable abbrev bursarlaw12_EntryMoves.H : HK := hk P G0 E0 J0 [entry_Move.row, bursarref01_Sub.row, bursarlaw12_none.row, bursarlaw12_awake.row, bursarref12_Check.row, bursarref12_Same.row, entry_On.row] noLoops 4
theorem bursarlaw12_EntryMoves.rows : TabOK P G0 (tabF [entry_Move.row, bursarref01_Sub.row, bursarlaw12_none.row, bursarlaw12_awake.row, bursarref12_Check.row, bursarref12_Same.row, entry_On.row]) := rows_ok (ws := [entry_Move.row, bursarref01_Sub.row, bursarlaw12_none.row, bursarlaw12_awake.row, bursarref12_Check.row, bursarref12_Same.row, entry_On.row]) ⟨entry_Move.row_ok, ⟨bursarref01_Sub.row_ok, ⟨bursarlaw12_none.row_ok, ⟨bursarlaw12_awake.row_ok, ⟨bursarref12_Check.row_ok, ⟨bursarref12_Same.row_ok, ⟨entry_On.row_ok, trivial⟩⟩⟩⟩⟩⟩⟩
theorem bursarlaw12_EntryMoves.hok : HKOK P bursarlaw12_EntryMoves.H := hk_ok e0_ok j0_ok bursarlaw12_EntryMoves.rows (fun g n => noLoops_ok g n) 4
noncomputable def bursarlaw12_EntryMoves.f (a : ((Int × (ByteArray × ((Int × ByteArray) × ((Int × ByteArray) × Int)))) × (Int × ByteArray))) : Option Bool := (bif (decide (((a.1.2.1.size : Int) > (25 : Int)))) then (bif (true && (decide (((25 : Int) ≤ (a.1.2.1.size : Int))))) then (bif (decide (((a.1.2.2.1.2.size : Int) > (20 : Int)))) then (bif (true && (decide (((20 : Int) ≤ (a.1.2.2.1.2.size : Int))))) then (bif (decide (((a.1.2.2.2.1.2.size : Int) > (20 : Int)))) then (bif (true && (decide (((20 : Int) ≤ (a.1.2.2.2.1.2.size : Int))))) then (((entry_Move.f (a.1.1, ((ByteArray.extract a.1.2.1 0 25), ((a.1.2.2.1.1, (ByteArray.extract a.1.2.2.1.2 0 20)), ((a.1.2.2.2.1.1, (ByteArray.extract a.1.2.2.2.1.2 0 20)), a.1.2.2.2.2)))))).bind fun (x2 : ((Int × (ByteArray × (List ((Int × ByteArray) × Int)))) × Int)) => (((bursarref01_Sub.f ((0 : Int), a.1.2.2.2.2))).bind fun (x3 : (Int × Bool)) => (bif (!x3.2) then (((bursarlaw12_none.f x2.1)).bind fun (x4 : Bool) => (bif x4 then (bif (x2.2 == (2 : Int)) then (some true) else (some false)) else (some false))) else (((bursarref12_Check.f (a.1.1, ((ByteArray.extract a.1.2.1 0 25), (((a.1.2.2.1.1, (ByteArray.extract a.1.2.2.1.2 0 20)), x3.1) :: (((a.1.2.2.2.1.1, (ByteArray.extract a.1.2.2.2.1.2 0 20)), a.1.2.2.2.2) :: [])))))).bind fun (x4 : Int) => (bif (x4 != (0 : Int)) then (((bursarlaw12_none.f x2.1)).bind fun (x5 : Bool) => (bif x5 then (bif (x2.2 == x4) then (some true) else (some false)) else (some false))) else (bif ((a.2.1 == a.1.2.2.1.1) && (((ByteArray.toList a.2.2) == (ByteArray.toList (ByteArray.extract a.1.2.2.1.2 0 20))) && true)) then (bif ((a.2.1 == a.1.2.2.2.1.1) && (((ByteArray.toList a.2.2) == (ByteArray.toList (ByteArray.extract a.1.2.2.2.1.2 0 20))) && true)) then (((bursarref12_Same.f (x2.1, (a.1.1, ((ByteArray.extract a.1.2.1 0 25), (((a.1.2.2.1.1, (ByteArray.extract a.1.2.2.1.2 0 20)), x3.1) :: (((a.1.2.2.2.1.1, (ByteArray.extract a.1.2.2.2.1.2 0 20)), a.1.2.2.2.2) :: []))))))).bind fun (x5 : Bool) => (bif x5 then (bif (x2.2 == (0 : Int)) then (((entry_On.f (x2.1, a.2))).bind fun (x6 : Int) => (bif (x6 == a.1.2.2.2.2) then (some true) else (some false))) else (some false)) else (some false))) else (((bursarref12_Same.f (x2.1, (a.1.1, ((ByteArray.extract a.1.2.1 0 25), (((a.1.2.2.1.1, (ByteArray.extract a.1.2.2.1.2 0 20)), x3.1) :: (((a.1.2.2.2.1.1, (ByteArray.extract a.1.2.2.2.1.2 0 20)), a.1.2.2.2.2) :: []))))))).bind fun (x5 : Bool) => (bif x5 then (bif (x2.2 == (0 : Int)) then (((entry_On.f (x2.1, a.2))).bind fun (x6 : Int) => (bif (x6 == x3.1) then (some true) else (some false))) else (some false)) else (some false)))) else (bif ((a.2.1 == a.1.2.2.2.1.1) && (((ByteArray.toList a.2.2) == (ByteArray.toList (ByteArray.extract a.1.2.2.2.1.2 0 20))) && true)) then (((bursarref12_Same.f (x2.1, (a.1.1, ((ByteArray.extract a.1.2.1 0 25), (((a.1.2.2.1.1, (ByteArray.extract a.1.2.2.1.2 0 20)), x3.1) :: (((a.1.2.2.2.1.1, (ByteArray.extract a.1.2.2.2.1.2 0 20)), a.1.2.2.2.2) :: []))))))).bind fun (x5 : Bool) => (bif x5 then (bif (x2.2 == (0 : Int)) then (((entry_On.f (x2.1, a.2))).bind fun (x6 : Int) => (bif (x6 == a.1.2.2.2.2) then (some true) else (some false))) else (some false)) else (some false))) else (((bursarref12_Same.f (x2.1, (a.1.1, ((ByteArray.extract a.1.2.1 0 25), (((a.1.2.2.1.1, (ByteArray.extract a.1.2.2.1.2 0 20)), x3.1) :: (((a.1.2.2.2.1.1, (ByteArray.extract a.1.2.2.2.1.2 0 20)), a.1.2.2.2.2) :: []))))))).bind fun (x5 : Bool) => (bif x5 then (bif (x2.2 == (0 : Int)) then (((entry_On.f (x2.1, a.2))).bind fun (x6 : Int) => (bif (x6 == (0 : Int)) then (some true) else (some false))) else (some false)) else (some false)))))))))) else none) else (((entry_Move.f (a.1.1, ((ByteArray.extract a.1.2.1 0 25), ((a.1.2.2.1.1, (ByteArray.extract a.1.2.2.1.2 0 20)), a.1.2.2.2))))).bind fun (x2 : ((Int × (ByteArray × (List ((Int × ByteArray) × Int)))) × Int)) => (((bursarref01_Sub.f ((0 : Int), a.1.2.2.2.2))).bind fun (x3 : (Int × Bool)) => (bif (!x3.2) then (((bursarlaw12_none.f x2.1)).bind fun (x4 : Bool) => (bif x4 then (bif (x2.2 == (2 : Int)) then (some true) else (some false)) else (some false))) else (((bursarref12_Check.f (a.1.1, ((ByteArray.extract a.1.2.1 0 25), (((a.1.2.2.1.1, (ByteArray.extract a.1.2.2.1.2 0 20)), x3.1) :: (a.1.2.2.2 :: [])))))).bind fun (x4 : Int) => (bif (x4 != (0 : Int)) then (((bursarlaw12_none.f x2.1)).bind fun (x5 : Bool) => (bif x5 then (bif (x2.2 == x4) then (some true) else (some false)) else (some false))) else (bif ((a.2.1 == a.1.2.2.1.1) && (((ByteArray.toList a.2.2) == (ByteArray.toList (ByteArray.extract a.1.2.2.1.2 0 20))) && true)) then (bif ((a.2.1 == a.1.2.2.2.1.1) && (((ByteArray.toList a.2.2) == (ByteArray.toList a.1.2.2.2.1.2)) && true)) then (((bursarref12_Same.f (x2.1, (a.1.1, ((ByteArray.extract a.1.2.1 0 25), (((a.1.2.2.1.1, (ByteArray.extract a.1.2.2.1.2 0 20)), x3.1) :: (a.1.2.2.2 :: []))))))).bind fun (x5 : Bool) => (bif x5 then (bif (x2.2 == (0 : Int)) then (((entry_On.f (x2.1, a.2))).bind fun (x6 : Int) => (bif (x6 == a.1.2.2.2.2) then (some true) else (some false))) else (some false)) else (some false))) else (((bursarref12_Same.f (x2.1, (a.1.1, ((ByteArray.extract a.1.2.1 0 25), (((a.1.2.2.1.1, (ByteArray.extract a.1.2.2.1.2 0 20)), x3.1) :: (a.1.2.2.2 :: []))))))).bind fun (x5 : Bool) => (bif x5 then (bif (x2.2 == (0 : Int)) then (((entry_On.f (x2.1, a.2))).bind fun (x6 : Int) => (bif (x6 == x3.1) then (some true) else (some false))) else (some false)) else (some false)))) else (bif ((a.2.1 == a.1.2.2.2.1.1) && (((ByteArray.toList a.2.2) == (ByteArray.toList a.1.2.2.2.1.2)) && true)) then (((bursarref12_Same.f (x2.1, (a.1.1, ((ByteArray.extract a.1.2.1 0 25), (((a.1.2.2.1.1, (ByteArray.extract a.1.2.2.1.2 0 20)), x3.1) :: (a.1.2.2.2 :: []))))))).bind fun (x5 : Bool) => (bif x5 then (bif (x2.2 == (0 : Int)) then (((entry_On.f (x2.1, a.2))).bind fun (x6 : Int) => (bif (x6 == a.1.2.2.2.2) then (some true) else (some false))) else (some false)) else (some false))) else (((bursarref12_Same.f (x2.1, (a.1.1, ((ByteArray.extract a.1.2.1 0 25), (((a.1.2.2.1.1, (ByteArray.extract a.1.2.2.1.2 0 20)), x3.1) :: (a.1.2.2.2 :: []))))))).bind fun (x5 : Bool) => (bif x5 then (bif (x2.2 == (0 : Int)) then (((entry_On.f (x2.1, a.2))).bind fun (x6 : Int) => (bif (x6 == (0 : Int)) then (some true) else (some false))) else (some false)) else (some false))))))))))) else none) else (bif (decide (((a.1.2.2.2.1.2.size : Int) > (20 : Int)))) then (bif (true && (decide (((20 : Int) ≤ (a.1.2.2.2.1.2.size : Int))))) then (((entry_Move.f (a.1.1, ((ByteArray.extract a.1.2.1 0 25), (a.1.2.2.1, ((a.1.2.2.2.1.1, (ByteArray.extract a.1.2.2.2.1.2 0 20)), a.1.2.2.2.2)))))).bind fun (x2 : ((Int × (ByteArray × (List ((Int × ByteArray) × Int)))) × Int)) => (((bursarref01_Sub.f ((0 : Int), a.1.2.2.2.2))).bind fun (x3 : (Int × Bool)) => (bif (!x3.2) then (((bursarlaw12_none.f x2.1)).bind fun (x4 : Bool) => (bif x4 then (bif (x2.2 == (2 : Int)) then (some true) else (some false)) else (some false))) else (((bursarref12_Check.f (a.1.1, ((ByteArray.extract a.1.2.1 0 25), ((a.1.2.2.1, x3.1) :: (((a.1.2.2.2.1.1, (ByteArray.extract a.1.2.2.2.1.2 0 20)), a.1.2.2.2.2) :: [])))))).bind fun (x4 : Int) => (bif (x4 != (0 : Int)) then (((bursarlaw12_none.f x2.1)).bind fun (x5 : Bool) => (bif x5 then (bif (x2.2 == x4) then (some true) else (some false)) else (some false))) else (bif ((a.2.1 == a.1.2.2.1.1) && (((ByteArray.toList a.2.2) == (ByteArray.toList a.1.2.2.1.2)) && true)) then (bif ((a.2.1 == a.1.2.2.2.1.1) && (((ByteArray.toList a.2.2) == (ByteArray.toList (ByteArray.extract a.1.2.2.2.1.2 0 20))) && true)) then (((bursarref12_Same.f (x2.1, (a.1.1, ((ByteArray.extract a.1.2.1 0 25), ((a.1.2.2.1, x3.1) :: (((a.1.2.2.2.1.1, (ByteArray.extract a.1.2.2.2.1.2 0 20)), a.1.2.2.2.2) :: []))))))).bind fun (x5 : Bool) => (bif x5 then (bif (x2.2 == (0 : Int)) then (((entry_On.f (x2.1, a.2))).bind fun (x6 : Int) => (bif (x6 == a.1.2.2.2.2) then (some true) else (some false))) else (some false)) else (some false))) else (((bursarref12_Same.f (x2.1, (a.1.1, ((ByteArray.extract a.1.2.1 0 25), ((a.1.2.2.1, x3.1) :: (((a.1.2.2.2.1.1, (ByteArray.extract a.1.2.2.2.1.2 0 20)), a.1.2.2.2.2) :: []))))))).bind fun (x5 : Bool) => (bif x5 then (bif (x2.2 == (0 : Int)) then (((entry_On.f (x2.1, a.2))).bind fun (x6 : Int) => (bif (x6 == x3.1) then (some true) else (some false))) else (some false)) else (some false)))) else (bif ((a.2.1 == a.1.2.2.2.1.1) && (((ByteArray.toList a.2.2) == (ByteArray.toList (ByteArray.extract a.1.2.2.2.1.2 0 20))) && true)) then (((bursarref12_Same.f (x2.1, (a.1.1, ((ByteArray.extract a.1.2.1 0 25), ((a.1.2.2.1, x3.1) :: (((a.1.2.2.2.1.1, (ByteArray.extract a.1.2.2.2.1.2 0 20)), a.1.2.2.2.2) :: []))))))).bind fun (x5 : Bool) => (bif x5 then (bif (x2.2 == (0 : Int)) then (((entry_On.f (x2.1, a.2))).bind fun (x6 : Int) => (bif (x6 == a.1.2.2.2.2) then (some true) else (some false))) else (some false)) else (some false))) else (((bursarref12_Same.f (x2.1, (a.1.1, ((ByteArray.extract a.1.2.1 0 25), ((a.1.2.2.1, x3.1) :: (((a.1.2.2.2.1.1, (ByteArray.extract a.1.2.2.2.1.2 0 20)), a.1.2.2.2.2) :: []))))))).bind fun (x5 : Bool) => (bif x5 then (bif (x2.2 == (0 : Int)) then (((entry_On.f (x2.1, a.2))).bind fun (x6 : Int) => (bif (x6 == (0 : Int)) then (some true) else (some false))) else (some false)) else (some false)))))))))) else none) else (((entry_Move.f (a.1.1, ((ByteArray.extract a.1.2.1 0 25), a.1.2.2)))).bind fun (x2 : ((Int × (ByteArray × (List ((Int × ByteArray) × Int)))) × Int)) => (((bursarref01_Sub.f ((0 : Int), a.1.2.2.2.2))).bind fun (x3 : (Int × Bool)) => (bif (!x3.2) then (((bursarlaw12_none.f x2.1)).bind fun (x4 : Bool) => (bif x4 then (bif (x2.2 == (2 : Int)) then (some true) else (some false)) else (some false))) else (((bursarref12_Check.f (a.1.1, ((ByteArray.extract a.1.2.1 0 25), ((a.1.2.2.1, x3.1) :: (a.1.2.2.2 :: [])))))).bind fun (x4 : Int) => (bif (x4 != (0 : Int)) then (((bursarlaw12_none.f x2.1)).bind fun (x5 : Bool) => (bif x5 then (bif (x2.2 == x4) then (some true) else (some false)) else (some false))) else (bif ((a.2.1 == a.1.2.2.1.1) && (((ByteArray.toList a.2.2) == (ByteArray.toList a.1.2.2.1.2)) && true)) then (bif ((a.2.1 == a.1.2.2.2.1.1) && (((ByteArray.toList a.2.2) == (ByteArray.toList a.1.2.2.2.1.2)) && true)) then (((bursarref12_Same.f (x2.1, (a.1.1, ((ByteArray.extract a.1.2.1 0 25), ((a.1.2.2.1, x3.1) :: (a.1.2.2.2 :: []))))))).bind fun (x5 : Bool) => (bif x5 then (bif (x2.2 == (0 : Int)) then (((entry_On.f (x2.1, a.2))).bind fun (x6 : Int) => (bif (x6 == a.1.2.2.2.2) then (some true) else (some false))) else (some false)) else (some false))) else (((bursarref12_Same.f (x2.1, (a.1.1, ((ByteArray.extract a.1.2.1 0 25), ((a.1.2.2.1, x3.1) :: (a.1.2.2.2 :: []))))))).bind fun (x5 : Bool) => (bif x5 then (bif (x2.2 == (0 : Int)) then (((entry_On.f (x2.1, a.2))).bind fun (x6 : Int) => (bif (x6 == x3.1) then (some true) else (some false))) else (some false)) else (some false)))) else (bif ((a.2.1 == a.1.2.2.2.1.1) && (((ByteArray.toList a.2.2) == (ByteArray.toList a.1.2.2.2.1.2)) && true)) then (((bursarref12_Same.f (x2.1, (a.1.1, ((ByteArray.extract a.1.2.1 0 25), ((a.1.2.2.1, x3.1) :: (a.1.2.2.2 :: []))))))).bind fun (x5 : Bool) => (bif x5 then (bif (x2.2 == (0 : Int)) then (((entry_On.f (x2.1, a.2))).bind fun (x6 : Int) => (bif (x6 == a.1.2.2.2.2) then (some true) else (some false))) else (some false)) else (some false))) else (((bursarref12_Same.f (x2.1, (a.1.1, ((ByteArray.extract a.1.2.1 0 25), ((a.1.2.2.1, x3.1) :: (a.1.2.2.2 :: []))))))).bind fun (x5 : Bool) => (bif x5 then (bif (x2.2 == (0 : Int)) then (((entry_On.f (x2.1, a.2))).bind fun (x6 : Int) => (bif (x6 == (0 : Int)) then (some true) else (some false))) else (some false)) else (some false)))))))))))) else none) else (bif (decide (((a.1.2.2.1.2.size : Int) > (20 : Int)))) then (bif (true && (decide (((20 : Int) ≤ (a.1.2.2.1.2.size : Int))))) then (bif (decide (((a.1.2.2.2.1.2.size : Int) > (20 : Int)))) then (bif (true && (decide (((20 : Int) ≤ (a.1.2.2.2.1.2.size : Int))))) then (((entry_Move.f (a.1.1, (a.1.2.1, ((a.1.2.2.1.1, (ByteArray.extract a.1.2.2.1.2 0 20)), ((a.1.2.2.2.1.1, (ByteArray.extract a.1.2.2.2.1.2 0 20)), a.1.2.2.2.2)))))).bind fun (x2 : ((Int × (ByteArray × (List ((Int × ByteArray) × Int)))) × Int)) => (((bursarref01_Sub.f ((0 : Int), a.1.2.2.2.2))).bind fun (x3 : (Int × Bool)) => (bif (!x3.2) then (((bursarlaw12_none.f x2.1)).bind fun (x4 : Bool) => (bif x4 then (bif (x2.2 == (2 : Int)) then (some true) else (some false)) else (some false))) else (((bursarref12_Check.f (a.1.1, (a.1.2.1, (((a.1.2.2.1.1, (ByteArray.extract a.1.2.2.1.2 0 20)), x3.1) :: (((a.1.2.2.2.1.1, (ByteArray.extract a.1.2.2.2.1.2 0 20)), a.1.2.2.2.2) :: [])))))).bind fun (x4 : Int) => (bif (x4 != (0 : Int)) then (((bursarlaw12_none.f x2.1)).bind fun (x5 : Bool) => (bif x5 then (bif (x2.2 == x4) then (some true) else (some false)) else (some false))) else (bif ((a.2.1 == a.1.2.2.1.1) && (((ByteArray.toList a.2.2) == (ByteArray.toList (ByteArray.extract a.1.2.2.1.2 0 20))) && true)) then (bif ((a.2.1 == a.1.2.2.2.1.1) && (((ByteArray.toList a.2.2) == (ByteArray.toList (ByteArray.extract a.1.2.2.2.1.2 0 20))) && true)) then (((bursarref12_Same.f (x2.1, (a.1.1, (a.1.2.1, (((a.1.2.2.1.1, (ByteArray.extract a.1.2.2.1.2 0 20)), x3.1) :: (((a.1.2.2.2.1.1, (ByteArray.extract a.1.2.2.2.1.2 0 20)), a.1.2.2.2.2) :: []))))))).bind fun (x5 : Bool) => (bif x5 then (bif (x2.2 == (0 : Int)) then (((entry_On.f (x2.1, a.2))).bind fun (x6 : Int) => (bif (x6 == a.1.2.2.2.2) then (some true) else (some false))) else (some false)) else (some false))) else (((bursarref12_Same.f (x2.1, (a.1.1, (a.1.2.1, (((a.1.2.2.1.1, (ByteArray.extract a.1.2.2.1.2 0 20)), x3.1) :: (((a.1.2.2.2.1.1, (ByteArray.extract a.1.2.2.2.1.2 0 20)), a.1.2.2.2.2) :: []))))))).bind fun (x5 : Bool) => (bif x5 then (bif (x2.2 == (0 : Int)) then (((entry_On.f (x2.1, a.2))).bind fun (x6 : Int) => (bif (x6 == x3.1) then (some true) else (some false))) else (some false)) else (some false)))) else (bif ((a.2.1 == a.1.2.2.2.1.1) && (((ByteArray.toList a.2.2) == (ByteArray.toList (ByteArray.extract a.1.2.2.2.1.2 0 20))) && true)) then (((bursarref12_Same.f (x2.1, (a.1.1, (a.1.2.1, (((a.1.2.2.1.1, (ByteArray.extract a.1.2.2.1.2 0 20)), x3.1) :: (((a.1.2.2.2.1.1, (ByteArray.extract a.1.2.2.2.1.2 0 20)), a.1.2.2.2.2) :: []))))))).bind fun (x5 : Bool) => (bif x5 then (bif (x2.2 == (0 : Int)) then (((entry_On.f (x2.1, a.2))).bind fun (x6 : Int) => (bif (x6 == a.1.2.2.2.2) then (some true) else (some false))) else (some false)) else (some false))) else (((bursarref12_Same.f (x2.1, (a.1.1, (a.1.2.1, (((a.1.2.2.1.1, (ByteArray.extract a.1.2.2.1.2 0 20)), x3.1) :: (((a.1.2.2.2.1.1, (ByteArray.extract a.1.2.2.2.1.2 0 20)), a.1.2.2.2.2) :: []))))))).bind fun (x5 : Bool) => (bif x5 then (bif (x2.2 == (0 : Int)) then (((entry_On.f (x2.1, a.2))).bind fun (x6 : Int) => (bif (x6 == (0 : Int)) then (some true) else (some false))) else (some false)) else (some false)))))))))) else none) else (((entry_Move.f (a.1.1, (a.1.2.1, ((a.1.2.2.1.1, (ByteArray.extract a.1.2.2.1.2 0 20)), a.1.2.2.2))))).bind fun (x2 : ((Int × (ByteArray × (List ((Int × ByteArray) × Int)))) × Int)) => (((bursarref01_Sub.f ((0 : Int), a.1.2.2.2.2))).bind fun (x3 : (Int × Bool)) => (bif (!x3.2) then (((bursarlaw12_none.f x2.1)).bind fun (x4 : Bool) => (bif x4 then (bif (x2.2 == (2 : Int)) then (some true) else (some false)) else (some false))) else (((bursarref12_Check.f (a.1.1, (a.1.2.1, (((a.1.2.2.1.1, (ByteArray.extract a.1.2.2.1.2 0 20)), x3.1) :: (a.1.2.2.2 :: [])))))).bind fun (x4 : Int) => (bif (x4 != (0 : Int)) then (((bursarlaw12_none.f x2.1)).bind fun (x5 : Bool) => (bif x5 then (bif (x2.2 == x4) then (some true) else (some false)) else (some false))) else (bif ((a.2.1 == a.1.2.2.1.1) && (((ByteArray.toList a.2.2) == (ByteArray.toList (ByteArray.extract a.1.2.2.1.2 0 20))) && true)) then (bif ((a.2.1 == a.1.2.2.2.1.1) && (((ByteArray.toList a.2.2) == (ByteArray.toList a.1.2.2.2.1.2)) && true)) then (((bursarref12_Same.f (x2.1, (a.1.1, (a.1.2.1, (((a.1.2.2.1.1, (ByteArray.extract a.1.2.2.1.2 0 20)), x3.1) :: (a.1.2.2.2 :: []))))))).bind fun (x5 : Bool) => (bif x5 then (bif (x2.2 == (0 : Int)) then (((entry_On.f (x2.1, a.2))).bind fun (x6 : Int) => (bif (x6 == a.1.2.2.2.2) then (some true) else (some false))) else (some false)) else (some false))) else (((bursarref12_Same.f (x2.1, (a.1.1, (a.1.2.1, (((a.1.2.2.1.1, (ByteArray.extract a.1.2.2.1.2 0 20)), x3.1) :: (a.1.2.2.2 :: []))))))).bind fun (x5 : Bool) => (bif x5 then (bif (x2.2 == (0 : Int)) then (((entry_On.f (x2.1, a.2))).bind fun (x6 : Int) => (bif (x6 == x3.1) then (some true) else (some false))) else (some false)) else (some false)))) else (bif ((a.2.1 == a.1.2.2.2.1.1) && (((ByteArray.toList a.2.2) == (ByteArray.toList a.1.2.2.2.1.2)) && true)) then (((bursarref12_Same.f (x2.1, (a.1.1, (a.1.2.1, (((a.1.2.2.1.1, (ByteArray.extract a.1.2.2.1.2 0 20)), x3.1) :: (a.1.2.2.2 :: []))))))).bind fun (x5 : Bool) => (bif x5 then (bif (x2.2 == (0 : Int)) then (((entry_On.f (x2.1, a.2))).bind fun (x6 : Int) => (bif (x6 == a.1.2.2.2.2) then (some true) else (some false))) else (some false)) else (some false))) else (((bursarref12_Same.f (x2.1, (a.1.1, (a.1.2.1, (((a.1.2.2.1.1, (ByteArray.extract a.1.2.2.1.2 0 20)), x3.1) :: (a.1.2.2.2 :: []))))))).bind fun (x5 : Bool) => (bif x5 then (bif (x2.2 == (0 : Int)) then (((entry_On.f (x2.1, a.2))).bind fun (x6 : Int) => (bif (x6 == (0 : Int)) then (some true) else (some false))) else (some false)) else (some false))))))))))) else none) else (bif (decide (((a.1.2.2.2.1.2.size : Int) > (20 : Int)))) then (bif (true && (decide (((20 : Int) ≤ (a.1.2.2.2.1.2.size : Int))))) then (((entry_Move.f (a.1.1, (a.1.2.1, (a.1.2.2.1, ((a.1.2.2.2.1.1, (ByteArray.extract a.1.2.2.2.1.2 0 20)), a.1.2.2.2.2)))))).bind fun (x2 : ((Int × (ByteArray × (List ((Int × ByteArray) × Int)))) × Int)) => (((bursarref01_Sub.f ((0 : Int), a.1.2.2.2.2))).bind fun (x3 : (Int × Bool)) => (bif (!x3.2) then (((bursarlaw12_none.f x2.1)).bind fun (x4 : Bool) => (bif x4 then (bif (x2.2 == (2 : Int)) then (some true) else (some false)) else (some false))) else (((bursarref12_Check.f (a.1.1, (a.1.2.1, ((a.1.2.2.1, x3.1) :: (((a.1.2.2.2.1.1, (ByteArray.extract a.1.2.2.2.1.2 0 20)), a.1.2.2.2.2) :: [])))))).bind fun (x4 : Int) => (bif (x4 != (0 : Int)) then (((bursarlaw12_none.f x2.1)).bind fun (x5 : Bool) => (bif x5 then (bif (x2.2 == x4) then (some true) else (some false)) else (some false))) else (bif ((a.2.1 == a.1.2.2.1.1) && (((ByteArray.toList a.2.2) == (ByteArray.toList a.1.2.2.1.2)) && true)) then (bif ((a.2.1 == a.1.2.2.2.1.1) && (((ByteArray.toList a.2.2) == (ByteArray.toList (ByteArray.extract a.1.2.2.2.1.2 0 20))) && true)) then (((bursarref12_Same.f (x2.1, (a.1.1, (a.1.2.1, ((a.1.2.2.1, x3.1) :: (((a.1.2.2.2.1.1, (ByteArray.extract a.1.2.2.2.1.2 0 20)), a.1.2.2.2.2) :: []))))))).bind fun (x5 : Bool) => (bif x5 then (bif (x2.2 == (0 : Int)) then (((entry_On.f (x2.1, a.2))).bind fun (x6 : Int) => (bif (x6 == a.1.2.2.2.2) then (some true) else (some false))) else (some false)) else (some false))) else (((bursarref12_Same.f (x2.1, (a.1.1, (a.1.2.1, ((a.1.2.2.1, x3.1) :: (((a.1.2.2.2.1.1, (ByteArray.extract a.1.2.2.2.1.2 0 20)), a.1.2.2.2.2) :: []))))))).bind fun (x5 : Bool) => (bif x5 then (bif (x2.2 == (0 : Int)) then (((entry_On.f (x2.1, a.2))).bind fun (x6 : Int) => (bif (x6 == x3.1) then (some true) else (some false))) else (some false)) else (some false)))) else (bif ((a.2.1 == a.1.2.2.2.1.1) && (((ByteArray.toList a.2.2) == (ByteArray.toList (ByteArray.extract a.1.2.2.2.1.2 0 20))) && true)) then (((bursarref12_Same.f (x2.1, (a.1.1, (a.1.2.1, ((a.1.2.2.1, x3.1) :: (((a.1.2.2.2.1.1, (ByteArray.extract a.1.2.2.2.1.2 0 20)), a.1.2.2.2.2) :: []))))))).bind fun (x5 : Bool) => (bif x5 then (bif (x2.2 == (0 : Int)) then (((entry_On.f (x2.1, a.2))).bind fun (x6 : Int) => (bif (x6 == a.1.2.2.2.2) then (some true) else (some false))) else (some false)) else (some false))) else (((bursarref12_Same.f (x2.1, (a.1.1, (a.1.2.1, ((a.1.2.2.1, x3.1) :: (((a.1.2.2.2.1.1, (ByteArray.extract a.1.2.2.2.1.2 0 20)), a.1.2.2.2.2) :: []))))))).bind fun (x5 : Bool) => (bif x5 then (bif (x2.2 == (0 : Int)) then (((entry_On.f (x2.1, a.2))).bind fun (x6 : Int) => (bif (x6 == (0 : Int)) then (some true) else (some false))) else (some false)) else (some false)))))))))) else none) else (((entry_Move.f a.1)).bind fun (x2 : ((Int × (ByteArray × (List ((Int × ByteArray) × Int)))) × Int)) => (((bursarref01_Sub.f ((0 : Int), a.1.2.2.2.2))).bind fun (x3 : (Int × Bool)) => (bif (!x3.2) then (((bursarlaw12_none.f x2.1)).bind fun (x4 : Bool) => (bif x4 then (bif (x2.2 == (2 : Int)) then (some true) else (some false)) else (some false))) else (((bursarref12_Check.f (a.1.1, (a.1.2.1, ((a.1.2.2.1, x3.1) :: (a.1.2.2.2 :: [])))))).bind fun (x4 : Int) => (bif (x4 != (0 : Int)) then (((bursarlaw12_none.f x2.1)).bind fun (x5 : Bool) => (bif x5 then (bif (x2.2 == x4) then (some true) else (some false)) else (some false))) else (bif ((a.2.1 == a.1.2.2.1.1) && (((ByteArray.toList a.2.2) == (ByteArray.toList a.1.2.2.1.2)) && true)) then (bif ((a.2.1 == a.1.2.2.2.1.1) && (((ByteArray.toList a.2.2) == (ByteArray.toList a.1.2.2.2.1.2)) && true)) then (((bursarref12_Same.f (x2.1, (a.1.1, (a.1.2.1, ((a.1.2.2.1, x3.1) :: (a.1.2.2.2 :: []))))))).bind fun (x5 : Bool) => (bif x5 then (bif (x2.2 == (0 : Int)) then (((entry_On.f (x2.1, a.2))).bind fun (x6 : Int) => (bif (x6 == a.1.2.2.2.2) then (some true) else (some false))) else (some false)) else (some false))) else (((bursarref12_Same.f (x2.1, (a.1.1, (a.1.2.1, ((a.1.2.2.1, x3.1) :: (a.1.2.2.2 :: []))))))).bind fun (x5 : Bool) => (bif x5 then (bif (x2.2 == (0 : Int)) then (((entry_On.f (x2.1, a.2))).bind fun (x6 : Int) => (bif (x6 == x3.1) then (some true) else (some false))) else (some false)) else (some false)))) else (bif ((a.2.1 == a.1.2.2.2.1.1) && (((ByteArray.toList a.2.2) == (ByteArray.toList a.1.2.2.2.1.2)) && true)) then (((bursarref12_Same.f (x2.1, (a.1.1, (a.1.2.1, ((a.1.2.2.1, x3.1) :: (a.1.2.2.2 :: []))))))).bind fun (x5 : Bool) => (bif x5 then (bif (x2.2 == (0 : Int)) then (((entry_On.f (x2.1, a.2))).bind fun (x6 : Int) => (bif (x6 == a.1.2.2.2.2) then (some true) else (some false))) else (some false)) else (some false))) else (((bursarref12_Same.f (x2.1, (a.1.1, (a.1.2.1, ((a.1.2.2.1, x3.1) :: (a.1.2.2.2 :: []))))))).bind fun (x5 : Bool) => (bif x5 then (bif (x2.2 == (0 : Int)) then (((entry_On.f (x2.1, a.2))).bind fun (x6 : Int) => (bif (x6 == (0 : Int)) then (some true) else (some false))) else (some false)) else (some false)))))))))))))
theorem bursarlaw12_EntryMoves.ok : ∀ a : Vals bursarlaw12_EntryMoves.As.tys, fnK P bursarlaw12_EntryMoves.H (lp []) 3 bursarlaw12_EntryMoves.As bursarlaw12_EntryMoves.m a some = bursarlaw12_EntryMoves.f a := fun a => by kernel_rfl
noncomputable abbrev bursarlaw12_EntryMoves.row : Row := fnRow 3 bursarlaw12_EntryMoves.As bursarlaw12_EntryMoves.m bursarlaw12_EntryMoves.f
theorem bursarlaw12_EntryMoves.row_ok : RowOK P G0 bursarlaw12_EntryMoves.row := row_told bursarlaw12_EntryMoves.hok (lp_of (l := []) trivial) (fun _ => rfl) bursarlaw12_EntryMoves.ok
end Go.Proofs.YtnnebljljmpdkaaDoor
end
section
/- What is wrong with an entry, as the document says; what an entry does to an account; entries alike; EntryMoves. By this session. -/
set_option linter.unusedVariables false
set_option linter.unusedSimpArgs false
namespace Go.Proofs.YtnnebljljmpdkaaDoor
open Go Go.Fw
theorem refRef_rounds (b : Int) (r : ByteArray) (l : List Lin) (hr : r.size ≤ 20) : bursarref12_Check.l6 (0, b, r, l) = some (bif r.data.toList.all okB33 then .inr (b, r, l) else .inl 1) := by
  have hl : r.data.toList.length = r.size := by simp
  have hf := rounds_first (t := bursarref12_Check.t6) (fun i => (((i : Nat) : Int), b, r, l)) (fun i => bif okB33 (r.data.toList.getD i 0) then none else some (.inl (1 : Int))) (.inr (b, r, l)) r.size (fun i hi _ => by
    obtain ⟨c, hc⟩ : ∃ c, r.data.toList.getD i 0 = c := ⟨_, rfl⟩
    have hbt : bt r i = ((c.toNat : Nat) : Int) := by unfold bt; rw [hc]
    simp only [bursarref12_Check.t6, inb hi, cond_true, ge0' i, Bool.and_self, Int.toNat_natCast, hbt, wrap_up (show i < 9223372036854775807 by omega), hc]
    by_cases c1 : c.toNat < 33
    · have e : okB33 c = false := by unfold okB33; rw [decide_eq_false (show ¬ 33 ≤ c.toNat by omega)]; rfl
      rw [decide_eq_true (show ((c.toNat : Nat) : Int) < 33 by omega), e]
      rfl
    · by_cases c2 : c.toNat ≤ 126
      · have e : okB33 c = true := by unfold okB33; rw [decide_eq_true (show 33 ≤ c.toNat by omega), decide_eq_true c2]; rfl
        rw [decide_eq_false (show ¬ ((c.toNat : Nat) : Int) < 33 by omega), decide_eq_false (show ¬ ((c.toNat : Nat) : Int) > 126 by omega), e]
        rfl
      · have e : okB33 c = false := by unfold okB33; rw [decide_eq_false c2, Bool.and_false]
        rw [decide_eq_false (show ¬ ((c.toNat : Nat) : Int) < 33 by omega), decide_eq_true (show ((c.toNat : Nat) : Int) > 126 by omega), e]
        rfl) (fun _ => by simp only [bursarref12_Check.t6, outb, cond_false])
  have hf' : bursarref12_Check.l6 (0, b, r, l) = some (((List.range r.size).findSome? (fun i => bif okB33 (r.data.toList.getD i 0) then none else some (Sum.inl (β := Int × ByteArray × List Lin) (1 : Int)))).getD (.inr (b, r, l))) := hf
  have ha := range_all okB33 0 r.data.toList
  rw [hl] at ha
  rw [hf', ← ha]
  rcases find_not (n := r.size) (p := fun i => okB33 (r.data.toList.getD i 0)) (g := fun i => Sum.inl (β := Int × ByteArray × List Lin) (1 : Int)) with ⟨i, _, h1, h2⟩ | ⟨h1, h2⟩ <;> rw [h1, h2] <;> rfl
theorem acc_beq (a b : Acc) : ((a.1 == b.1) && ((ByteArray.toList a.2 == ByteArray.toList b.2) && true)) = decide (a = b) := by
  obtain ⟨k, s⟩ := a
  obtain ⟨k', s'⟩ := b
  rw [texts_eq, Bool.and_true, Bool.eq_iff_iff]
  simp
theorem inner_rounds12 {l : List Lin} {i : Nat} (hi : i < l.length) (hl : l.length ≤ 1000) (b : Int) (r : ByteArray) (acc : List Int) :
    bursarref12_Check.l10_9 (((i : Nat) : Int), 0, b, r, l, acc) = some (bif (List.range i).any (fun j => decide ((l.getD j zL).1 = (l.getD i zL).1)) then .inl 1 else .inr (((i : Nat) : Int), b, r, l, acc)) := by
  have hf := rounds_first (t := bursarref12_Check.t10_9) (fun k => (((i : Nat) : Int), ((k : Nat) : Int), b, r, l, acc)) (fun k => bif !decide ((l.getD k zL).1 = (l.getD i zL).1) then none else some (.inl (1 : Int))) (.inr (((i : Nat) : Int), b, r, l, acc)) i (fun k hk _ => by
    simp only [bursarref12_Check.t10_9, inb hk, cond_true, ge0' k, ge0' i, inb (show k < l.length by omega), inb hi, Bool.and_self, Int.toNat_natCast, dflt_line, acc_beq, wrap_up (show k < 9223372036854775807 by omega)]
    cases decide ((l.getD k zL).1 = (l.getD i zL).1) <;> rfl) (fun _ => by simp only [bursarref12_Check.t10_9, outb, cond_false])
  have hf' : bursarref12_Check.l10_9 (((i : Nat) : Int), 0, b, r, l, acc) = _ := hf
  rw [hf']
  have hn : (List.range i).any (fun j => decide ((l.getD j zL).1 = (l.getD i zL).1)) = !((List.range i).all fun j => !decide ((l.getD j zL).1 = (l.getD i zL).1)) := by
    rw [List.all_eq_not_any_not, Bool.not_not]
    simp only [Bool.not_not]
  rw [hn]
  rcases find_not (n := i) (p := fun k => !decide ((l.getD k zL).1 = (l.getD i zL).1)) (g := fun k => Sum.inl (β := Int × Int × ByteArray × List Lin × List Int) (1 : Int)) with ⟨k, _, h1, h2⟩ | ⟨h1, h2⟩ <;> rw [h1, h2] <;> rfl
theorem lines12_rounds {l : List Lin} (hl : l.length ≤ 1000) (b : Int) (r : ByteArray) : bursarref12_Check.l10 (0, b, r, l, []) = some (bif okLines l then .inr (l.map (·.2)) else .inl 1) := by
  have hf := rounds_first (t := bursarref12_Check.t10) (fun i => (((i : Nat) : Int), b, r, l, (l.take i).map (·.2))) (fun i => bif okLine l i then none else some (.inl (1 : Int))) (.inr (l.map (·.2))) l.length (fun i hi _ => by
    have hm : ((l.take i).map (fun y : Lin => y.2)).length ≤ 1000 := by simp; omega
    have hup : (l.take (i + 1)).map (fun y : Lin => y.2) = (l.take i).map (fun y : Lin => y.2) ++ [(l.getD i zL).2] := by rw [take_up zL hi, List.map_append]; rfl
    simp only [bursarref12_Check.t10, inb hi, cond_true, ge0' i, Bool.and_self, Int.toNat_natCast, dflt_line, refName_is, Option.bind_some, inner_rounds12 hi hl]
    rw [hup]
    unfold okLine
    cases maySB (l.getD i zL).1
    · simp only [Bool.not_false, cond_true, Bool.and_false, cond_false]
    · simp only [Bool.not_true, cond_false, Bool.and_true]
      cases ((l.getD i zL).2 == 0)
      · simp only [cond_false, Bool.not_false, Bool.and_true]
        cases (List.range i).any (fun j => decide ((l.getD j zL).1 = (l.getD i zL).1))
        · simp only [cond_false, Bool.not_false, cond_true, ge0' i, inb hi, Bool.and_self, Int.toNat_natCast, wrap_up (show i < 9223372036854775807 by omega)]
          obtain ⟨acc, ha⟩ : ∃ acc, (l.take i).map (fun y : Lin => y.2) = acc := ⟨_, rfl⟩
          rw [ha] at hm ⊢
          cases acc with
          | nil => rfl
          | cons x y =>
            simp only [List.length_cons] at hm
            simp only [List.length_cons, List.length_nil, Nat.ble_eq_true_of_le (show (y.length + 1 + (0 + 1)) * 8 ≤ 140737488355328 by omega), Nat.ble_eq_true_of_le (show y.length + 1 + (0 + 1) ≤ 140737488355328 by omega), Bool.and_self, cond_true]
        · rfl
      · simp only [cond_true, Bool.not_true, Bool.and_false, cond_false]) (fun _ => by
    simp only [bursarref12_Check.t10, outb, cond_false, List.take_length])
  have hf' : bursarref12_Check.l10 (0, b, r, l, []) = _ := hf
  rw [hf']
  unfold okLines
  rcases find_not (n := l.length) (p := okLine l) (g := fun i => Sum.inl (β := List Int) (1 : Int)) with ⟨i, _, h1, h2⟩ | ⟨h1, h2⟩ <;> rw [h1, h2] <;> rfl
theorem refCheck_is {x : Ent} (hg : goodL x.2.2) : bursarref12_Check.f x = some (checkE x) := by
  obtain ⟨b, r, l⟩ := x
  have hg : goodL l := hg
  unfold bursarref12_Check.f checkE
  simp only
  cases decide (b < 0)
  · cases decide (b > 2147483647)
    · simp only [cond_false, Bool.false_or]
      by_cases hr : r.size ≤ 20
      · rw [decide_eq_false (show ¬ (r.size : Int) > 20 by omega)]
        have hok : okRef r = r.data.toList.all okB33 := by unfold okRef; rw [decide_eq_true hr, Bool.true_and]; rfl
        simp only [cond_false, hok]
        by_cases h2 : l.length < 2
        · rw [decide_eq_true (show (l.length : Int) < 2 by omega), decide_eq_true h2]
          simp
        by_cases h8 : l.length > 8
        · rw [decide_eq_false (show ¬ (l.length : Int) < 2 by omega), decide_eq_true (show (l.length : Int) > 8 by omega), decide_eq_false h2, decide_eq_true h8]
          simp
        rw [decide_eq_false (show ¬ (l.length : Int) < 2 by omega), decide_eq_false (show ¬ (l.length : Int) > 8 by omega), decide_eq_false h2, decide_eq_false h8]
        simp only [cond_false, Bool.false_or, refRef_rounds b r l hr, Option.bind_some]
        cases r.data.toList.all okB33
        · rfl
        · simp only [cond_true, Bool.not_true, Bool.false_or, lines12_rounds (show l.length ≤ 1000 by omega), Option.bind_some]
          cases okLines l
          · rfl
          · have hsum := ref_Sum_is (l := l.map (·.2)) (by simp; omega) hg.amounts
            simp only [cond_true, Bool.not_true, cond_false, hsum, Option.bind_some]
            unfold sumR
            cases fits (l.map (·.2)).sum
            · rfl
            · simp only [cond_true, Bool.not_true, cond_false, bne]
              cases ((l.map (·.2)).sum == 0) <;> rfl
      · rw [decide_eq_true (show (r.size : Int) > 20 by omega)]
        have hok : okRef r = false := by unfold okRef; rw [decide_eq_false hr]; rfl
        rw [hok]
        rfl
    · rfl
  · rfl
/-! ### on an account; alike -/
def onE (l : List Lin) (a : Acc) : Int := match l.find? fun y => decide (y.1 = a) with
  | some y => y.2
  | none => 0
theorem on_is (x : Ent) (a : Acc) (hl : x.2.2.length ≤ 1000) : entry_On.f (x, a) = some (onE x.2.2 a) := by
  obtain ⟨b, r, l⟩ := x
  have hl : l.length ≤ 1000 := hl
  have hf := rounds_first (t := entry_On.ti0) (fun i => (l, (l.length : Int), ((i : Nat) : Int), b, r, l, a)) (fun i => bif !decide ((l.getD i zL).1 = a) then none else some (.inl (((i : Nat) : Int), b, r, l, a))) (.inr (b, r, l, a)) l.length (fun i hi _ => by
    simp only [entry_On.ti0, inb hi, cond_true, ge0' i, Bool.and_self, Int.toNat_natCast, dflt_line, acc_beq, wrap_up (show i < 9223372036854775807 by omega)]
    cases decide ((l.getD i zL).1 = a) <;> rfl) (fun _ => by simp only [entry_On.ti0, outb, cond_false])
  have hf' : entry_On.li0 (l, (l.length : Int), 0, b, r, l, a) = _ := hf
  unfold entry_On.f
  simp only [hf', Option.bind_some]
  -- the first line of the account
  have key : ∀ (n : Nat), n ≤ l.length → (∀ j, j < n → (l.getD j zL).1 ≠ a) → onE l a = onE (l.drop n) a := by
    intro n
    induction n with
    | zero => intro _ _; rfl
    | succ n ih =>
      intro hn hj
      rw [ih (by omega) fun j h => hj j (by omega)]
      have hd : l.drop n = l.getD n zL :: l.drop (n + 1) := by rw [getD_at (by omega), List.drop_eq_getElem_cons (by omega)]
      unfold onE
      rw [hd, List.find?_cons, decide_eq_false (hj n (by omega))]
  by_cases ha : ∀ j, j < l.length → (l.getD j zL).1 ≠ a
  · have hn : (List.range l.length).findSome? (fun i => bif !decide ((l.getD i zL).1 = a) then none else some (Sum.inl (β := Int × ByteArray × List Lin × Acc) (((i : Nat) : Int), b, r, l, a))) = none := range_none (Nat.le_refl _) fun j hj => by rw [decide_eq_false (ha j hj)]; rfl
    rw [hn, key l.length (Nat.le_refl _) ha, List.drop_length]
    rfl
  · have hex : ∃ k, k < l.length ∧ (∀ j, j < k → (l.getD j zL).1 ≠ a) ∧ (l.getD k zL).1 = a := by
      have : ∀ n, n ≤ l.length → ¬ (∀ j, j < n → (l.getD j zL).1 ≠ a) → ∃ k, k < n ∧ (∀ j, j < k → (l.getD j zL).1 ≠ a) ∧ (l.getD k zL).1 = a := by
        intro n
        induction n with
        | zero => intro _ h; exact absurd (fun j hj => by omega) h
        | succ n ih =>
          intro hn h
          by_cases h' : ∀ j, j < n → (l.getD j zL).1 ≠ a
          · refine ⟨n, by omega, h', ?_⟩
            by_cases e : (l.getD n zL).1 = a
            · exact e
            · exact absurd (fun j hj => by
                by_cases ej : j = n
                · rw [ej]; exact e
                · exact h' j (by omega)) h
          · obtain ⟨k, hk, h1⟩ := ih (by omega) h'
            exact ⟨k, by omega, h1⟩
      exact this l.length (Nat.le_refl _) ha
    obtain ⟨k, hk, hj, he⟩ := hex
    rw [range_some hk (fun j h => by rw [decide_eq_false (hj j h)]; rfl) (r := .inl (((k : Nat) : Int), b, r, l, a)) (by rw [decide_eq_true he]; rfl), key k (by omega) hj]
    have hd : l.drop k = l.getD k zL :: l.drop (k + 1) := by rw [getD_at hk, List.drop_eq_getElem_cons hk]
    simp only [Option.getD_some, decide_eq_false (show ¬ ((k : Nat) : Int) < 0 by omega), cond_false, ge0' k, inb hk, Bool.and_self, cond_true, Int.toNat_natCast, dflt_line]
    unfold onE
    rw [hd, List.find?_cons, decide_eq_true he]
theorem lin_beq (y z : Lin) : (((y.1.1 == z.1.1) && ((ByteArray.toList y.1.2 == ByteArray.toList z.1.2) && true)) && ((y.2 == z.2) && true)) = decide (y = z) := by
  rw [acc_beq]
  obtain ⟨a, n⟩ := y
  obtain ⟨a', n'⟩ := z
  rw [Bool.and_true, Bool.eq_iff_iff]
  simp
theorem same12_is (x y : Ent) (hl : x.2.2.length ≤ 1000) : bursarref12_Same.f (x, y) = some (decide (x = y)) := by
  obtain ⟨b, r, l⟩ := x
  obtain ⟨b', r', l'⟩ := y
  have hl : l.length ≤ 1000 := hl
  unfold bursarref12_Same.f
  simp only [texts_eq]
  by_cases hb : b = b'
  · subst hb
    simp only [bne_self_eq_false, cond_false]
    by_cases hr : r = r'
    · subst hr
      simp only [decide_true, Bool.not_true, cond_false]
      by_cases he : l.length = l'.length
      · have e : (((l.length : Nat) : Int) != ((l'.length : Nat) : Int)) = false := by rw [he]; simp
        have hf := rounds_first (t := bursarref12_Same.t6) (fun i => (((i : Nat) : Int), b, r, l, b, r, l')) (fun i => bif decide (l.getD i zL = l'.getD i zL) then none else some (.inl false)) (.inr ()) l.length (fun i hi _ => by
          simp only [bursarref12_Same.t6, inb hi, inb (show i < l'.length by omega), cond_true, ge0' i, Bool.and_self, Int.toNat_natCast, dflt_line, lin_beq, wrap_up (show i < 9223372036854775807 by omega)]
          cases decide (l.getD i zL = l'.getD i zL) <;> rfl) (fun _ => by simp only [bursarref12_Same.t6, outb, cond_false])
        have hf' : bursarref12_Same.l6 (0, b, r, l, b, r, l') = _ := hf
        simp only [e, cond_false, hf', Option.bind_some]
        have ha : (List.range l.length).all (fun i => decide (l.getD i zL = l'.getD i zL)) = decide (l = l') := by
          rw [Bool.eq_iff_iff, List.all_eq_true, decide_eq_true_eq]
          constructor
          · intro h
            refine List.ext_getElem he fun i h1 h2 => ?_
            have := of_decide_eq_true (h i (List.mem_range.2 h1))
            rwa [getD_at h1, getD_at h2] at this
          · rintro rfl i _; exact decide_eq_true rfl
        rcases find_not (n := l.length) (p := fun i => decide (l.getD i zL = l'.getD i zL)) (g := fun i => Sum.inl (β := Unit) false) with ⟨i, _, h1, h2⟩ | ⟨h1, h2⟩
        · rw [h1]
          rw [ha] at h2
          rw [decide_eq_false (fun h => (of_decide_eq_false h2) (by injection h with _ h; injection h))]
          rfl
        · rw [h1]
          rw [ha] at h2
          rw [of_decide_eq_true h2, decide_eq_true rfl]
          rfl
      · have e : (((l.length : Nat) : Int) != ((l'.length : Nat) : Int)) = true := by simp only [bne_iff_ne, ne_eq]; omega
        rw [e, decide_eq_false (fun h => he (by injection h with _ h; injection h with _ h; rw [h]))]
        rfl
    · rw [decide_eq_false hr, decide_eq_false (fun h => hr (by injection h with _ h; injection h))]
      rfl
  · have e : (b != b') = true := by simpa using hb
    have hne : ¬ ((b, r, l) = (b', r', l')) := fun h => hb (congrArg Prod.fst h)
    rw [e, decide_eq_false hne]
    rfl
theorem none_is (x : Ent) : bursarlaw12_none.f x = some (x.1 == 0 && (decide (x.2.1 = bs []) && ((x.2.2.length : Int) == 0))) := by
  unfold bursarlaw12_none.f
  rw [texts_nil]
  cases (x.1 == 0) <;> cases decide (x.2.1 = bs []) <;> rfl
theorem noneE : bursarlaw12_none.f (0, bs [], []) = some true := by rw [none_is, decide_eq_true rfl]; rfl
theorem made_is {x : Ent} (hg : goodL x.2.2) : entry_made.f x = some (bif checkE x == 0 then (x, 0) else ((0, bs [], []), checkE x)) := by
  unfold entry_made.f
  rw [check_is hg, Option.bind_some, bne]
  cases (checkE x == 0) <;> rfl
theorem okLines_two {y z : Lin} (h : okLines [y, z] = true) : y.1 ≠ z.1 := by
  have := List.all_eq_true.1 h 1 (by simp)
  intro e
  unfold okLine at this
  simp [e] at this
theorem checkE_two {b : Int} {r : ByteArray} {y z : Lin} (h : checkE (b, r, [y, z]) = 0) : y.1 ≠ z.1 := by
  unfold checkE at h
  simp only at h
  cases hk : okLines [y, z]
  · rw [hk] at h
    simp at h
  · exact okLines_two hk
theorem goodL_two {k1 k2 : Int} {s1 s2 : ByteArray} {m n : Int} (hk1 : (Lit.int .i64 k1).wf = true) (hk2 : (Lit.int .i64 k2).wf = true) (hs1 : s1.size ≤ 20) (hs2 : s2.size ≤ 20) (hm : Am m) (hn : Am n) :
    goodL [((k1, s1), m), ((k2, s2), n)] := by
  intro y hy
  have hmax : (20 : Nat) ≤ maxLen := by decide
  rcases List.mem_cons.1 hy with rfl | hy
  · exact ⟨hk1, Nat.le_trans hs1 hmax, hm⟩
  · rcases List.mem_cons.1 hy with rfl | hy
    · exact ⟨hk2, Nat.le_trans hs2 hmax, hn⟩
    · cases hy
theorem cut_small {s : ByteArray} {n : Nat} : (s.extract 0 n).size ≤ n := by rw [ByteArray.size_extract]; omega
theorem EntryMoves_is (a : (Int × ByteArray × Acc × Acc × Int) × Acc) (h1 : (Lit.int .i64 a.1.2.2.1.1).wf = true) (h2 : (Lit.int .i64 a.1.2.2.2.1.1).wf = true) (h3 : Am a.1.2.2.2.2) : bursarlaw12_EntryMoves.f a = some true := by
  have core : ∀ (b : Int) (r : ByteArray) (k1 k2 : Int) (s1 s2 : ByteArray) (n : Int) (c : Acc), r.size ≤ 25 → s1.size ≤ 20 → s2.size ≤ 20 → (Lit.int .i64 k1).wf = true → (Lit.int .i64 k2).wf = true → Am n → bursarlaw12_EntryMoves.f ((b, r, (k1, s1), (k2, s2), n), c) = some true := by
    intro b r k1 k2 s1 s2 n c hr hs1 hs2 hk1 hk2 hn
    have h0 : Am 0 := by unfold Am; omega
    unfold bursarlaw12_EntryMoves.f
    simp only [decide_eq_false (show ¬ (r.size : Int) > 25 by omega), decide_eq_false (show ¬ (s1.size : Int) > 20 by omega), decide_eq_false (show ¬ (s2.size : Int) > 20 by omega), cond_false]
    obtain ⟨q, hq, hq1, hq2⟩ := ref_Sub_is (a := 0) (b := n) h0 hn
    have hsub := money_Sub_is (a := 0) (b := n) h0 hn
    by_cases hm : Am (0 - n)
    · have hqf : q.2 = true := by rw [hq1, fits_of hm]
      have hqv : q.1 = 0 - n := hq2 (fits_of hm)
      have hg := goodL_two hk1 hk2 hs1 hs2 hm hn
      have hmv : entry_Move.f (b, r, (k1, s1), (k2, s2), n) = some (bif checkE (b, r, [((k1, s1), 0 - n), ((k2, s2), n)]) == 0 then ((b, r, [((k1, s1), 0 - n), ((k2, s2), n)]), 0) else ((0, bs [], []), checkE (b, r, [((k1, s1), 0 - n), ((k2, s2), n)]))) := by
        unfold entry_Move.f
        simp only [hsub, sumS_of hm, Option.bind_some, bne_self_eq_false, cond_false, made_is (x := (b, r, [((k1, s1), 0 - n), ((k2, s2), n)])) hg]
      have hrc := refCheck_is (x := (b, r, [((k1, s1), 0 - n), ((k2, s2), n)])) hg
      simp only [hmv, hq, Option.bind_some, hqf, hqv, Bool.not_true, cond_false, hrc]
      obtain ⟨e, he⟩ : ∃ e, checkE (b, r, [((k1, s1), 0 - n), ((k2, s2), n)]) = e := ⟨_, rfl⟩
      rw [he]
      by_cases e0 : e = 0
      · subst e0
        have hne : (k1, s1) ≠ (k2, s2) := checkE_two he
        have hsame := same12_is (b, r, [((k1, s1), 0 - n), ((k2, s2), n)]) (b, r, [((k1, s1), 0 - n), ((k2, s2), n)]) (by simp)
        have hon := on_is (b, r, [((k1, s1), 0 - n), ((k2, s2), n)]) c (by simp)
        have a1 := acc_beq c (k1, s1)
        have a2 := acc_beq c (k2, s2)
        simp only at a1 a2
        simp only [bne_self_eq_false, BEq.rfl, cond_true, cond_false, hsame, decide_true, Option.bind_some, hon, a1, a2]
        by_cases c1 : c = (k1, s1)
        · have c2 : ¬ c = (k2, s2) := fun h => hne (c1.symm.trans h)
          have ho : onE [((k1, s1), 0 - n), ((k2, s2), n)] c = 0 - n := by
            unfold onE
            rw [List.find?_cons, decide_eq_true c1.symm]
          simp only [ho, decide_eq_true c1, decide_eq_false c2, cond_true, cond_false, BEq.rfl]
        · by_cases c2 : c = (k2, s2)
          · have ho : onE [((k1, s1), 0 - n), ((k2, s2), n)] c = n := by
              unfold onE
              rw [List.find?_cons, decide_eq_false (fun h => c1 h.symm), List.find?_cons, decide_eq_true c2.symm]
            simp only [ho, decide_eq_false c1, decide_eq_true c2, cond_true, cond_false, BEq.rfl]
          · have ho : onE [((k1, s1), 0 - n), ((k2, s2), n)] c = 0 := by
              unfold onE
              rw [List.find?_cons, decide_eq_false (fun h => c1 h.symm), List.find?_cons, decide_eq_false (fun h => c2 h.symm)]
              rfl
            simp only [ho, decide_eq_false c1, decide_eq_false c2, cond_true, cond_false, BEq.rfl]
      · have e1 : (e == 0) = false := by simpa using e0
        have e2 : (e != 0) = true := by simpa using e0
        simp only [e1, e2, cond_false, cond_true, noneE, Option.bind_some, BEq.rfl]
    · have hqf : q.2 = false := by rw [hq1, fits_not hm]
      have hmv : entry_Move.f (b, r, (k1, s1), (k2, s2), n) = some ((0, bs [], []), 2) := by
        unfold entry_Move.f
        simp only [hsub, sumS_not hm, Option.bind_some]
        rfl
      simp only [hmv, hq, Option.bind_some, hqf, Bool.not_false, cond_true, noneE]
      rfl
  obtain ⟨⟨b, r, ⟨k1, s1⟩, ⟨k2, s2⟩, n⟩, c⟩ := a
  have cutd : ∀ (s : ByteArray) (m : Nat), s.size ≤ m → s.extract 0 m = s := fun s m h => by
    ext1
    rw [ByteArray.data_extract]
    simp only [Array.extract_eq_self_iff]
    right
    exact ⟨trivial, h⟩
  have hc := core b (r.extract 0 25) k1 k2 (s1.extract 0 20) (s2.extract 0 20) n c cut_small cut_small cut_small h1 h2 h3
  have z1 := cut_small (s := r) (n := 25)
  have z2 := cut_small (s := s1) (n := 20)
  have z3 := cut_small (s := s2) (n := 20)
  rw [← hc]
  unfold bursarlaw12_EntryMoves.f
  simp only [decide_eq_false (show ¬ ((r.extract 0 25).size : Int) > 25 by omega), decide_eq_false (show ¬ ((s1.extract 0 20).size : Int) > 20 by omega), decide_eq_false (show ¬ ((s2.extract 0 20).size : Int) > 20 by omega), cond_false]
  by_cases cr : r.size ≤ 25
  · by_cases c1 : s1.size ≤ 20
    · by_cases c2 : s2.size ≤ 20
      · simp only [cutd r 25 cr, cutd s1 20 c1, cutd s2 20 c2, decide_eq_false (show ¬ (r.size : Int) > 25 by omega), decide_eq_false (show ¬ (s1.size : Int) > 20 by omega), decide_eq_false (show ¬ (s2.size : Int) > 20 by omega), cond_false]
      · simp only [cutd r 25 cr, cutd s1 20 c1, decide_eq_false (show ¬ (r.size : Int) > 25 by omega), decide_eq_false (show ¬ (s1.size : Int) > 20 by omega), decide_eq_true (show (s2.size : Int) > 20 by omega), decide_eq_true (show (20 : Int) ≤ (s2.size : Int) by omega), Bool.and_self, cond_true, cond_false]
    · by_cases c2 : s2.size ≤ 20
      · simp only [cutd r 25 cr, cutd s2 20 c2, decide_eq_false (show ¬ (r.size : Int) > 25 by omega), decide_eq_true (show (s1.size : Int) > 20 by omega), decide_eq_true (show (20 : Int) ≤ (s1.size : Int) by omega), decide_eq_false (show ¬ (s2.size : Int) > 20 by omega), Bool.and_self, cond_true, cond_false]
      · simp only [cutd r 25 cr, decide_eq_false (show ¬ (r.size : Int) > 25 by omega), decide_eq_true (show (s1.size : Int) > 20 by omega), decide_eq_true (show (20 : Int) ≤ (s1.size : Int) by omega), decide_eq_true (show (s2.size : Int) > 20 by omega), decide_eq_true (show (20 : Int) ≤ (s2.size : Int) by omega), Bool.and_self, cond_true, cond_false]
  · by_cases c1 : s1.size ≤ 20
    · by_cases c2 : s2.size ≤ 20
      · simp only [cutd s1 20 c1, cutd s2 20 c2, decide_eq_true (show (r.size : Int) > 25 by omega), decide_eq_true (show (25 : Int) ≤ (r.size : Int) by omega), decide_eq_false (show ¬ (s1.size : Int) > 20 by omega), decide_eq_false (show ¬ (s2.size : Int) > 20 by omega), Bool.and_self, cond_true, cond_false]
      · simp only [cutd s1 20 c1, decide_eq_true (show (r.size : Int) > 25 by omega), decide_eq_true (show (25 : Int) ≤ (r.size : Int) by omega), decide_eq_false (show ¬ (s1.size : Int) > 20 by omega), decide_eq_true (show (s2.size : Int) > 20 by omega), decide_eq_true (show (20 : Int) ≤ (s2.size : Int) by omega), Bool.and_self, cond_true, cond_false]
    · by_cases c2 : s2.size ≤ 20
      · simp only [cutd s2 20 c2, decide_eq_true (show (r.size : Int) > 25 by omega), decide_eq_true (show (25 : Int) ≤ (r.size : Int) by omega), decide_eq_true (show (s1.size : Int) > 20 by omega), decide_eq_true (show (20 : Int) ≤ (s1.size : Int) by omega), decide_eq_false (show ¬ (s2.size : Int) > 20 by omega), Bool.and_self, cond_true, cond_false]
      · simp only [decide_eq_true (show (r.size : Int) > 25 by omega), decide_eq_true (show (25 : Int) ≤ (r.size : Int) by omega), decide_eq_true (show (s1.size : Int) > 20 by omega), decide_eq_true (show (20 : Int) ≤ (s1.size : Int) by omega), decide_eq_true (show (s2.size : Int) > 20 by omega), decide_eq_true (show (20 : Int) ≤ (s2.size : Int) by omega), Bool.and_self, cond_true, cond_false]
end Go.Proofs.YtnnebljljmpdkaaDoor
end
section
/- Contracts of the library at this program, in plain words. Written by a tool of the kit.
-/
namespace Go.Proofs
open Go.Shelf
def Tryd.laysPu14_ren : Go.Shelf.Ren := ⟨fun | 14 => 64 | 16 => 80 | 17 => 61 | 19 => 97 | 20 => 98 | 21 => 74 | 22 => 75 | 23 => 76 | 24 => 77 | 25 => 90 | 27 => 27 | 26 => 91 | 28 => 49 | 29 => 66 | 30 => 81 | 31 => 82 | 32 => 83 | 33 => 84 | 35 => 100 | 34 => 99 | 36 => 101 | 37 => 102 | 38 => 103 | 39 => 107 | 40 => 108 | n => n, fun | 9 => 9 | 3 => 3 | 22 => 89 | 24 => 75 | 25 => 101 | 4 => 4 | 34 => 110 | 5 => 5 | 36 => 97 | 37 => 104 | 0 => 0 | 39 => 113 | 21 => 21 | 44 => 128 | 47 => 138 | 50 => 141 | 48 => 139 | 2 => 2 | 52 => 116 | 55 => 119 | 59 => 133 | 60 => 134 | 20 => 20 | 61 => 135 | 65 => 149 | 66 => 150 | 67 => 151 | n => n, fun | 0 => 0 | 1 => 1 | 2 => 3 | 3 => 6 | 4 => 7 | n => n⟩
theorem Tryd.laysPu14 : Go.Proofs.LaysPu.n14 Tryd.prog Tryd.laysPu14_ren := {
  mixed := by kernel_rfl
  f14 := Tryd.func64.trans (congrArg some (by kernel_rfl))
  f16 := Tryd.func80.trans (congrArg some (by kernel_rfl))
  f17 := Tryd.func61.trans (congrArg some (by kernel_rfl))
  f19 := Tryd.func97.trans (congrArg some (by kernel_rfl))
  f20 := Tryd.func98.trans (congrArg some (by kernel_rfl))
  f21 := Tryd.func74.trans (congrArg some (by kernel_rfl))
  f22 := Tryd.func75.trans (congrArg some (by kernel_rfl))
  f23 := Tryd.func76.trans (congrArg some (by kernel_rfl))
  f24 := Tryd.func77.trans (congrArg some (by kernel_rfl))
  f25 := Tryd.func90.trans (congrArg some (by kernel_rfl))
  f26 := Tryd.func91.trans (congrArg some (by kernel_rfl))
  f27 := Tryd.func27.trans (congrArg some (by kernel_rfl))
  f28 := Tryd.func49.trans (congrArg some (by kernel_rfl))
  f29 := Tryd.func66.trans (congrArg some (by kernel_rfl))
  f30 := Tryd.func81.trans (congrArg some (by kernel_rfl))
  f31 := Tryd.func82.trans (congrArg some (by kernel_rfl))
  f32 := Tryd.func83.trans (congrArg some (by kernel_rfl))
  f33 := Tryd.func84.trans (congrArg some (by kernel_rfl))
  f34 := Tryd.func99.trans (congrArg some (by kernel_rfl))
  f35 := Tryd.func100.trans (congrArg some (by kernel_rfl))
  f36 := Tryd.func101.trans (congrArg some (by kernel_rfl))
  f37 := Tryd.func102.trans (congrArg some (by kernel_rfl))
  f38 := Tryd.func103.trans (congrArg some (by kernel_rfl))
  f39 := Tryd.func107.trans (congrArg some (by kernel_rfl))
  f40 := Tryd.func108.trans (congrArg some (by kernel_rfl))
  t0 := Tryd.underlying0
  a0 := Tryd.isAgg0
  z0 := Tryd.sizeOf0
  v0 := Tryd.zeroValue0
  i0 := by kernel_rfl
  t2 := Tryd.underlying2
  a2 := Tryd.isAgg2
  z2 := Tryd.sizeOf2
  v2 := Tryd.zeroValue2
  i2 := by kernel_rfl
  t3 := Tryd.underlying3
  a3 := Tryd.isAgg3
  z3 := Tryd.sizeOf3
  v3 := Tryd.zeroValue3
  i3 := by kernel_rfl
  t4 := Tryd.underlying4
  a4 := Tryd.isAgg4
  z4 := Tryd.sizeOf4
  v4 := Tryd.zeroValue4
  i4 := by kernel_rfl
  t5 := Tryd.underlying5
  a5 := Tryd.isAgg5
  z5 := Tryd.sizeOf5
  v5 := Tryd.zeroValue5
  i5 := by kernel_rfl
  t9 := Tryd.underlying9
  a9 := Tryd.isAgg9
  z9 := Tryd.sizeOf9
  v9 := Tryd.zeroValue9
  i9 := by kernel_rfl
  t20 := Tryd.underlying20
  a20 := Tryd.isAgg20
  z20 := Tryd.sizeOf20
  v20 := Tryd.zeroValue20
  i20 := by kernel_rfl
  t21 := Tryd.underlying21
  a21 := Tryd.isAgg21
  z21 := Tryd.sizeOf21
  v21 := Tryd.zeroValue21
  i21 := by kernel_rfl
  t22 := Tryd.underlying89
  a22 := Tryd.isAgg89
  z22 := Tryd.sizeOf89
  v22 := Tryd.zeroValue89
  i22 := by kernel_rfl
  t24 := Tryd.underlying75
  a24 := Tryd.isAgg75
  z24 := Tryd.sizeOf75
  v24 := Tryd.zeroValue75
  i24 := by kernel_rfl
  t25 := Tryd.underlying101
  a25 := Tryd.isAgg101
  z25 := Tryd.sizeOf101
  v25 := Tryd.zeroValue101
  i25 := by kernel_rfl
  t34 := Tryd.underlying110
  a34 := Tryd.isAgg110
  z34 := Tryd.sizeOf110
  v34 := Tryd.zeroValue110
  i34 := by kernel_rfl
  c34 := by kernel_rfl
  t36 := Tryd.underlying97
  a36 := Tryd.isAgg97
  z36 := Tryd.sizeOf97
  v36 := Tryd.zeroValue97
  i36 := by kernel_rfl
  t37 := Tryd.underlying104
  a37 := Tryd.isAgg104
  z37 := Tryd.sizeOf104
  v37 := Tryd.zeroValue104
  i37 := by kernel_rfl
  t39 := Tryd.underlying113
  a39 := Tryd.isAgg113
  z39 := Tryd.sizeOf113
  v39 := Tryd.zeroValue113
  i39 := by kernel_rfl
  t44 := Tryd.underlying128
  a44 := Tryd.isAgg128
  z44 := Tryd.sizeOf128
  v44 := Tryd.zeroValue128
  i44 := by kernel_rfl
  t47 := Tryd.underlying138
  a47 := Tryd.isAgg138
  z47 := Tryd.sizeOf138
  v47 := Tryd.zeroValue138
  i47 := by kernel_rfl
  t48 := Tryd.underlying139
  a48 := Tryd.isAgg139
  z48 := Tryd.sizeOf139
  v48 := Tryd.zeroValue139
  i48 := by kernel_rfl
  t50 := Tryd.underlying141
  a50 := Tryd.isAgg141
  z50 := Tryd.sizeOf141
  v50 := Tryd.zeroValue141
  i50 := by kernel_rfl
  t52 := Tryd.underlying116
  a52 := Tryd.isAgg116
  z52 := Tryd.sizeOf116
  v52 := Tryd.zeroValue116
  i52 := by kernel_rfl
  t55 := Tryd.underlying119
  a55 := Tryd.isAgg119
  z55 := Tryd.sizeOf119
  v55 := Tryd.zeroValue119
  i55 := by kernel_rfl
  t59 := Tryd.underlying133
  a59 := Tryd.isAgg133
  z59 := Tryd.sizeOf133
  v59 := Tryd.zeroValue133
  i59 := by kernel_rfl
  t60 := Tryd.underlying134
  a60 := Tryd.isAgg134
  z60 := Tryd.sizeOf134
  v60 := Tryd.zeroValue134
  i60 := by kernel_rfl
  t61 := Tryd.underlying135
  a61 := Tryd.isAgg135
  z61 := Tryd.sizeOf135
  t65 := Tryd.underlying149
  a65 := Tryd.isAgg149
  z65 := Tryd.sizeOf149
  v65 := Tryd.zeroValue149
  i65 := by kernel_rfl
  t66 := Tryd.underlying150
  a66 := Tryd.isAgg150
  z66 := Tryd.sizeOf150
  v66 := Tryd.zeroValue150
  i66 := by kernel_rfl
  t67 := Tryd.underlying151
  a67 := Tryd.isAgg151
  z67 := Tryd.sizeOf151
  v67 := Tryd.zeroValue151
  i67 := by kernel_rfl
  g0 := by kernel_rfl
  m0 := by kernel_rfl
  g1 := by kernel_rfl
  m1 := by kernel_rfl
  g2 := by kernel_rfl
  m2 := by kernel_rfl
  g3 := by kernel_rfl
  m3 := by kernel_rfl
  g4 := by kernel_rfl
  m4 := by kernel_rfl }
end Go.Proofs
end
section
/- strconv.ParseUint, as a row, by the library's contracts. By this session. -/
set_option linter.unusedVariables false
namespace Go.Proofs.YtnnebljljmpdkaaDoor
open Go Go.Fw Go.RowKit Go.Shelf
def parseU (l : List UInt8) : Int × Bool := match Lib.parseUintB 64 l with
  | .ok u => ((u : Int), false)
  | .«syntax» => (0, true)
  | .range => (18446744073709551615, true)
abbrev strconv_ParseUint.As : Shs := .cons (.x .s) (.cons (.x (.i .i64)) (.cons (.x (.i .i64)) .nil))
abbrev strconv_ParseUint.m : Back := [(false, .i .u64), (false, .e)]
abbrev strconv_ParseUint.f (a : (ByteArray × (Int × Int))) : Option (Int × Bool) := bif decide (a.2.1 = 10) && decide (a.2.2 = 64) && decide (a.1.size ≤ 281474976710656) then some (parseU a.1.data.toList) else none
noncomputable abbrev strconv_ParseUint.row : Row := fnRow 64 strconv_ParseUint.As strconv_ParseUint.m strconv_ParseUint.f
theorem bytes_below (w : World) (t : TypeId) (s : ByteArray) : Below w.heap.size w (Lib.bytesWorld w t s) := by
  unfold Lib.bytesWorld World.freeze
  rw [if_neg (by decide)]
  refine ⟨rfl, rfl, rfl, by simp, fun k hk => ?_⟩
  show ((w.heap.push _).modify _ _)[k]? = _
  rw [Array.getElem?_modify, if_neg (by show ¬ w.heap.size = k; omega), Array.getElem?_push, if_neg (by omega)]
theorem strconv_ParseUint.row_ok : RowOK P G1 strconv_ParseUint.row := by
  have key : ∀ (ds : List D) (a : ByteArray × (Int × Int)) (q : Int × Bool), decArgs strconv_ParseUint.As ds = some a → strconv_ParseUint.f a = some q → Fw.Enters P 64 ∧ PCall P G1 64 ds (.tp [.i .u64 q.1, .er q.2]) := by
    intro ds a q ha hq
    refine ⟨ent_of Tryd.func64 (by kernel_rfl) (by kernel_rfl), ?_⟩
    have hds := (decArgs_argD ha).symm
    refine PCall.coe (ds' := argD strconv_ParseUint.As a) ?_ (by rw [← hds]; exact coeA_len) fun w I f hf => by rw [← hds]; exact coeA_rel hf
    refine pcall_below fun w I K vs hg hsz hr => ?_
    have h0 := hr 0 (.s a.1) rfl
    have h1 := hr 1 (.i .i64 a.2.1) rfl
    have h2 := hr 2 (.i .i64 a.2.2) rfl
    have hvs : vs = #[.string a.1, .int .i64 a.2.1, .int .i64 a.2.2] := by
      have hs : vs.size = 3 := hsz
      rw [Array.getD_eq_getD_getElem?, Array.getElem?_eq_getElem (by omega)] at h0 h1 h2
      simp only [Option.getD_some] at h0 h1 h2
      refine Array.ext (by simpa using hs) fun i hi hi' => ?_
      match i, hi with
      | 0, _ => cases h : vs[0] <;> rw [h] at h0 <;> cases h0; rfl
      | 1, _ => cases h : vs[1] <;> rw [h] at h1 <;> cases h1; rfl
      | 2, _ => cases h : vs[2] <;> rw [h] at h2 <;> cases h2; rfl
      | i + 3, hi => omega
    subst hvs
    unfold strconv_ParseUint.f at hq
    obtain ⟨hb, hq⟩ := cond_some hq
    simp only [Bool.and_eq_true, decide_eq_true_eq] at hb
    obtain ⟨⟨h3, h4⟩, h5⟩ := hb
    rw [h3, h4]
    injection hq with hq
    subst hq
    unfold parseU
    have tup : ∀ (w' : World) (n : Int) (b : Bool) (v : Value), RelD w' I (.er b) v → RelX w' I K (.tp [.i .u64 n, .er b]) (.tuple #[.int .u64 n, v]) := fun w' n b v hv => ⟨_, rfl, RelD.i .u64 n, ⟨hv, trivial, fun b h => by cases b <;> cases h⟩, fun b h => by cases h⟩
    cases hp : Lib.parseUintB 64 a.1.data.toList with
    | ok u =>
      refine (Any.strconv_ParseUint_10_at64_ok Tryd.laysPu14 a.1 (by omega) u hp w).mono ?_
      rintro e w' ⟨rfl, hw⟩
      refine ⟨_, rfl, ?_, tup w' u false _ .er0⟩
      rcases hw with rfl | rfl
      · exact .refl _ _
      · exact bytes_below _ _ _
    | «syntax» =>
      obtain ⟨tp, p, hv⟩ := err_of_glob (P := P) hg (g := 0) (name := "strconv.ErrSyntax") (by kernel_rfl) rfl
      refine (Any.strconv_ParseUint_10_at64_syntax_var Tryd.laysPu14 a.1 h5 hp tp p w hv).mono ?_
      rintro e w' ⟨N, rfl, _, _, hb⟩
      exact ⟨_, rfl, hb, tup w' 0 true _ (.er1 _ _)⟩
    | range =>
      obtain ⟨tp, p, hv⟩ := err_of_glob (P := P) hg (g := 1) (name := "strconv.ErrRange") (by kernel_rfl) rfl
      refine (Any.strconv_ParseUint_10_at64_range_var Tryd.laysPu14 a.1 h5 hp tp p w hv).mono ?_
      rintro e w' ⟨N, rfl, _, _, hb⟩
      exact ⟨_, rfl, hb, tup w' 18446744073709551615 true _ (.er1 _ _)⟩
  exact fun ds a q => key ds a q
end Go.Proofs.YtnnebljljmpdkaaDoor
end
section
/- The Go function money.Text, as a Lean function, and that it is this one. Written by a program of this session. -/
set_option linter.unusedVariables false
set_option maxRecDepth 100000
namespace Go.Proofs.YtnnebljljmpdkaaDoor
open Go Go.Fw
abbrev money_Text.As : Shs := (.cons (.x (.i .i64)) .nil)
abbrev money_Text.m : Back := [(false, .s)]
noncomputable abbrev money_Text.H : HK := hk P G0 E0 J0 [money_size.row, strconv_FormatUint.row] noLoops 4
theorem money_Text.rows : TabOK P G0 (tabF [money_size.row, strconv_FormatUint.row]) := rows_ok (ws := [money_size.row, strconv_FormatUint.row]) ⟨money_size.row_ok, ⟨strconv_FormatUint.row_ok, trivial⟩⟩
theorem money_Text.hok : HKOK P money_Text.H := hk_ok e0_ok j0_ok money_Text.rows (fun g n => noLoops_ok g n) 4
noncomputable def money_Text.f (a : Int) : Option ByteArray := (bif (decide ((a < (0 : Int)))) then (((money_size.f a)).bind fun (x1 : Int) => (((strconv_FormatUint.f ((IntKind.wrap .u64 ((Int.tmod x1 (100 : Int)) + (100 : Int))), (10 : Int)))).bind fun (x2 : ByteArray) => (((strconv_FormatUint.f ((IntKind.wrap .u64 (Int.tdiv x1 (100 : Int))), (10 : Int)))).bind fun (x3 : ByteArray) => (bif (Nat.ble (1 + x3.size) 9223372036854775807) then (bif (Nat.ble (((bs [45]) ++ x3).size + 1) 9223372036854775807) then (bif (true && (decide (((1 : Int) ≤ (x2.size : Int))))) then (bif (Nat.ble ((((bs [45]) ++ x3) ++ (bs [46])).size + (ByteArray.extract x2 1 x2.size).size) 9223372036854775807) then (some ((((bs [45]) ++ x3) ++ (bs [46])) ++ (ByteArray.extract x2 1 x2.size))) else none) else none) else none) else none)))) else (((money_size.f a)).bind fun (x1 : Int) => (((strconv_FormatUint.f ((IntKind.wrap .u64 ((Int.tmod x1 (100 : Int)) + (100 : Int))), (10 : Int)))).bind fun (x2 : ByteArray) => (((strconv_FormatUint.f ((IntKind.wrap .u64 (Int.tdiv x1 (100 : Int))), (10 : Int)))).bind fun (x3 : ByteArray) => (bif (Nat.ble (0 + x3.size) 9223372036854775807) then (bif (Nat.ble (((bs []) ++ x3).size + 1) 9223372036854775807) then (bif (true && (decide (((1 : Int) ≤ (x2.size : Int))))) then (bif (Nat.ble ((((bs []) ++ x3) ++ (bs [46])).size + (ByteArray.extract x2 1 x2.size).size) 9223372036854775807) then (some ((((bs []) ++ x3) ++ (bs [46])) ++ (ByteArray.extract x2 1 x2.size))) else none) else none) else none) else none)))))
theorem money_Text.ok : ∀ a : Vals money_Text.As.tys, fnK P money_Text.H (lp []) 29 money_Text.As money_Text.m a some = money_Text.f a := fun a => by kernel_rfl
noncomputable abbrev money_Text.row : Row := fnRow 29 money_Text.As money_Text.m money_Text.f
theorem money_Text.row_ok : RowOK P G0 money_Text.row := row_told money_Text.hok (lp_of (l := []) trivial) (fun _ => rfl) money_Text.ok
end Go.Proofs.YtnnebljljmpdkaaDoor
end
section
/- The Go function money.Parse, as a Lean function, and that it is this one. Written by a program of this session. -/
set_option linter.unusedVariables false
set_option maxRecDepth 100000
namespace Go.Proofs.YtnnebljljmpdkaaDoor
open Go Go.Fw
abbrev money_Parse.As : Shs := (.cons (.x .s) .nil)
abbrev money_Parse.m : Back := [(false, (.i .i64)), (false, (.i .i64))]
noncomputable abbrev money_Parse.H : HK := hk P G1 E0 J0 [money_Text.row, strconv_ParseUint.row, money_signed.row] noLoops 4
theorem money_Parse.rows : TabOK P G1 (tabF [money_Text.row, strconv_ParseUint.row, money_signed.row]) := rows_ok (ws := [money_Text.row, strconv_ParseUint.row, money_signed.row]) ⟨(money_Text.row_ok.more g01), ⟨strconv_ParseUint.row_ok, ⟨(money_signed.row_ok.more g01), trivial⟩⟩⟩
theorem money_Parse.hok : HKOK P money_Parse.H := hk_ok e0_ok j0_ok money_Parse.rows (fun g n => noLoops_ok g n) 4
noncomputable def money_Parse.f (a : ByteArray) : Option (Int × Int) := (bif (decide (((a.size : Int) ≥ (1 : Int)))) then (bif (true && (decide (((1 : Int) ≤ (a.size : Int))))) then (bif (!((ByteArray.toList (ByteArray.extract a 0 1)) == [(45 : UInt8)])) then (bif ([(46 : UInt8)] == (ByteArray.toList a)) then (bif (true && (decide (((1 : Int) ≤ (a.size : Int))))) then (bif (Nat.ble ((ByteArray.extract a 0 0).size + (ByteArray.extract a 1 a.size).size) 9223372036854775807) then (((strconv_ParseUint.f (((ByteArray.extract a 0 0) ++ (ByteArray.extract a 1 a.size)), ((10 : Int), (64 : Int))))).bind fun (x1 : (Int × Bool)) => (bif (!(!x1.2)) then (some ((0 : Int), (4 : Int))) else (((money_signed.f (x1.1, false))).bind fun (x2 : (Int × Int)) => (bif (x2.2 != (0 : Int)) then (some ((0 : Int), (4 : Int))) else (((money_Text.f x2.1)).bind fun (x3 : ByteArray) => (bif (!((ByteArray.toList x3) == (ByteArray.toList a))) then (some ((0 : Int), (4 : Int))) else (some (x2.1, (0 : Int))))))))) else none) else none) else (bif (decide (((Go.Lib.indexByte (Array.toList (ByteArray.data a)) (46 : UInt8)) ≥ (0 : Int)))) then (bif ((decide (((0 : Int) ≤ (Go.Lib.indexByte (Array.toList (ByteArray.data a)) (46 : UInt8))))) && (decide (((Go.Lib.indexByte (Array.toList (ByteArray.data a)) (46 : UInt8)) ≤ (a.size : Int))))) then (bif ((decide (((0 : Int) ≤ (IntKind.wrap .i64 ((Go.Lib.indexByte (Array.toList (ByteArray.data a)) (46 : UInt8)) + (1 : Int)))))) && (decide (((IntKind.wrap .i64 ((Go.Lib.indexByte (Array.toList (ByteArray.data a)) (46 : UInt8)) + (1 : Int))) ≤ (a.size : Int))))) then (bif (Nat.ble ((ByteArray.extract a 0 (Int.toNat (Go.Lib.indexByte (Array.toList (ByteArray.data a)) (46 : UInt8)))).size + (ByteArray.extract a (Int.toNat (IntKind.wrap .i64 ((Go.Lib.indexByte (Array.toList (ByteArray.data a)) (46 : UInt8)) + (1 : Int)))) a.size).size) 9223372036854775807) then (((strconv_ParseUint.f (((ByteArray.extract a 0 (Int.toNat (Go.Lib.indexByte (Array.toList (ByteArray.data a)) (46 : UInt8)))) ++ (ByteArray.extract a (Int.toNat (IntKind.wrap .i64 ((Go.Lib.indexByte (Array.toList (ByteArray.data a)) (46 : UInt8)) + (1 : Int)))) a.size)), ((10 : Int), (64 : Int))))).bind fun (x1 : (Int × Bool)) => (bif (!(!x1.2)) then (some ((0 : Int), (4 : Int))) else (((money_signed.f (x1.1, false))).bind fun (x2 : (Int × Int)) => (bif (x2.2 != (0 : Int)) then (some ((0 : Int), (4 : Int))) else (((money_Text.f x2.1)).bind fun (x3 : ByteArray) => (bif (!((ByteArray.toList x3) == (ByteArray.toList a))) then (some ((0 : Int), (4 : Int))) else (some (x2.1, (0 : Int))))))))) else none) else none) else none) else (bif (Nat.ble (a.size + 0) 9223372036854775807) then (((strconv_ParseUint.f ((a ++ (bs [])), ((10 : Int), (64 : Int))))).bind fun (x1 : (Int × Bool)) => (bif (!(!x1.2)) then (some ((0 : Int), (4 : Int))) else (((money_signed.f (x1.1, false))).bind fun (x2 : (Int × Int)) => (bif (x2.2 != (0 : Int)) then (some ((0 : Int), (4 : Int))) else (((money_Text.f x2.1)).bind fun (x3 : ByteArray) => (bif (!((ByteArray.toList x3) == (ByteArray.toList a))) then (some ((0 : Int), (4 : Int))) else (some (x2.1, (0 : Int))))))))) else none))) else (bif (true && (decide (((1 : Int) ≤ (a.size : Int))))) then (bif ([(46 : UInt8)] == (ByteArray.toList (ByteArray.extract a 1 a.size))) then (bif (true && (decide (((1 : Int) ≤ ((ByteArray.extract a 1 a.size).size : Int))))) then (bif (Nat.ble ((ByteArray.extract (ByteArray.extract a 1 a.size) 0 0).size + (ByteArray.extract (ByteArray.extract a 1 a.size) 1 (ByteArray.extract a 1 a.size).size).size) 9223372036854775807) then (((strconv_ParseUint.f (((ByteArray.extract (ByteArray.extract a 1 a.size) 0 0) ++ (ByteArray.extract (ByteArray.extract a 1 a.size) 1 (ByteArray.extract a 1 a.size).size)), ((10 : Int), (64 : Int))))).bind fun (x1 : (Int × Bool)) => (bif (!(!x1.2)) then (some ((0 : Int), (4 : Int))) else (((money_signed.f (x1.1, true))).bind fun (x2 : (Int × Int)) => (bif (x2.2 != (0 : Int)) then (some ((0 : Int), (4 : Int))) else (((money_Text.f x2.1)).bind fun (x3 : ByteArray) => (bif (!((ByteArray.toList x3) == (ByteArray.toList a))) then (some ((0 : Int), (4 : Int))) else (some (x2.1, (0 : Int))))))))) else none) else none) else (bif (decide (((Go.Lib.indexByte (Array.toList (ByteArray.data (ByteArray.extract a 1 a.size))) (46 : UInt8)) ≥ (0 : Int)))) then (bif ((decide (((0 : Int) ≤ (Go.Lib.indexByte (Array.toList (ByteArray.data (ByteArray.extract a 1 a.size))) (46 : UInt8))))) && (decide (((Go.Lib.indexByte (Array.toList (ByteArray.data (ByteArray.extract a 1 a.size))) (46 : UInt8)) ≤ ((ByteArray.extract a 1 a.size).size : Int))))) then (bif ((decide (((0 : Int) ≤ (IntKind.wrap .i64 ((Go.Lib.indexByte (Array.toList (ByteArray.data (ByteArray.extract a 1 a.size))) (46 : UInt8)) + (1 : Int)))))) && (decide (((IntKind.wrap .i64 ((Go.Lib.indexByte (Array.toList (ByteArray.data (ByteArray.extract a 1 a.size))) (46 : UInt8)) + (1 : Int))) ≤ ((ByteArray.extract a 1 a.size).size : Int))))) then (bif (Nat.ble ((ByteArray.extract (ByteArray.extract a 1 a.size) 0 (Int.toNat (Go.Lib.indexByte (Array.toList (ByteArray.data (ByteArray.extract a 1 a.size))) (46 : UInt8)))).size + (ByteArray.extract (ByteArray.extract a 1 a.size) (Int.toNat (IntKind.wrap .i64 ((Go.Lib.indexByte (Array.toList (ByteArray.data (ByteArray.extract a 1 a.size))) (46 : UInt8)) + (1 : Int)))) (ByteArray.extract a 1 a.size).size).size) 9223372036854775807) then (((strconv_ParseUint.f (((ByteArray.extract (ByteArray.extract a 1 a.size) 0 (Int.toNat (Go.Lib.indexByte (Array.toList (ByteArray.data (ByteArray.extract a 1 a.size))) (46 : UInt8)))) ++ (ByteArray.extract (ByteArray.extract a 1 a.size) (Int.toNat (IntKind.wrap .i64 ((Go.Lib.indexByte (Array.toList (ByteArray.data (ByteArray.extract a 1 a.size))) (46 : UInt8)) + (1 : Int)))) (ByteArray.extract a 1 a.size).size)), ((10 : Int), (64 : Int))))).bind fun (x1 : (Int × Bool)) => (bif (!(!x1.2)) then (some ((0 : Int), (4 : Int))) else (((money_signed.f (x1.1, true))).bind fun (x2 : (Int × Int)) => (bif (x2.2 != (0 : Int)) then (some ((0 : Int), (4 : Int))) else (((money_Text.f x2.1)).bind fun (x3 : ByteArray) => (bif (!((ByteArray.toList x3) == (ByteArray.toList a))) then (some ((0 : Int), (4 : Int))) else (some (x2.1, (0 : Int))))))))) else none) else none) else none) else (bif (Nat.ble ((ByteArray.extract a 1 a.size).size + 0) 9223372036854775807) then (((strconv_ParseUint.f (((ByteArray.extract a 1 a.size) ++ (bs [])), ((10 : Int), (64 : Int))))).bind fun (x1 : (Int × Bool)) => (bif (!(!x1.2)) then (some ((0 : Int), (4 : Int))) else (((money_signed.f (x1.1, true))).bind fun (x2 : (Int × Int)) => (bif (x2.2 != (0 : Int)) then (some ((0 : Int), (4 : Int))) else (((money_Text.f x2.1)).bind fun (x3 : ByteArray) => (bif (!((ByteArray.toList x3) == (ByteArray.toList a))) then (some ((0 : Int), (4 : Int))) else (some (x2.1, (0 : Int))))))))) else none))) else none)) else none) else (bif ([(46 : UInt8)] == (ByteArray.toList a)) then (bif (true && (decide (((1 : Int) ≤ (a.size : Int))))) then (bif (Nat.ble ((ByteArray.extract a 0 0).size + (ByteArray.extract a 1 a.size).size) 9223372036854775807) then (((strconv_ParseUint.f (((ByteArray.extract a 0 0) ++ (ByteArray.extract a 1 a.size)), ((10 : Int), (64 : Int))))).bind fun (x1 : (Int × Bool)) => (bif (!(!x1.2)) then (some ((0 : Int), (4 : Int))) else (((money_signed.f (x1.1, false))).bind fun (x2 : (Int × Int)) => (bif (x2.2 != (0 : Int)) then (some ((0 : Int), (4 : Int))) else (((money_Text.f x2.1)).bind fun (x3 : ByteArray) => (bif (!((ByteArray.toList x3) == (ByteArray.toList a))) then (some ((0 : Int), (4 : Int))) else (some (x2.1, (0 : Int))))))))) else none) else none) else (bif (decide (((Go.Lib.indexByte (Array.toList (ByteArray.data a)) (46 : UInt8)) ≥ (0 : Int)))) then (bif ((decide (((0 : Int) ≤ (Go.Lib.indexByte (Array.toList (ByteArray.data a)) (46 : UInt8))))) && (decide (((Go.Lib.indexByte (Array.toList (ByteArray.data a)) (46 : UInt8)) ≤ (a.size : Int))))) then (bif ((decide (((0 : Int) ≤ (IntKind.wrap .i64 ((Go.Lib.indexByte (Array.toList (ByteArray.data a)) (46 : UInt8)) + (1 : Int)))))) && (decide (((IntKind.wrap .i64 ((Go.Lib.indexByte (Array.toList (ByteArray.data a)) (46 : UInt8)) + (1 : Int))) ≤ (a.size : Int))))) then (bif (Nat.ble ((ByteArray.extract a 0 (Int.toNat (Go.Lib.indexByte (Array.toList (ByteArray.data a)) (46 : UInt8)))).size + (ByteArray.extract a (Int.toNat (IntKind.wrap .i64 ((Go.Lib.indexByte (Array.toList (ByteArray.data a)) (46 : UInt8)) + (1 : Int)))) a.size).size) 9223372036854775807) then (((strconv_ParseUint.f (((ByteArray.extract a 0 (Int.toNat (Go.Lib.indexByte (Array.toList (ByteArray.data a)) (46 : UInt8)))) ++ (ByteArray.extract a (Int.toNat (IntKind.wrap .i64 ((Go.Lib.indexByte (Array.toList (ByteArray.data a)) (46 : UInt8)) + (1 : Int)))) a.size)), ((10 : Int), (64 : Int))))).bind fun (x1 : (Int × Bool)) => (bif (!(!x1.2)) then (some ((0 : Int), (4 : Int))) else (((money_signed.f (x1.1, false))).bind fun (x2 : (Int × Int)) => (bif (x2.2 != (0 : Int)) then (some ((0 : Int), (4 : Int))) else (((money_Text.f x2.1)).bind fun (x3 : ByteArray) => (bif (!((ByteArray.toList x3) == (ByteArray.toList a))) then (some ((0 : Int), (4 : Int))) else (some (x2.1, (0 : Int))))))))) else none) else none) else none) else (bif (Nat.ble (a.size + 0) 9223372036854775807) then (((strconv_ParseUint.f ((a ++ (bs [])), ((10 : Int), (64 : Int))))).bind fun (x1 : (Int × Bool)) => (bif (!(!x1.2)) then (some ((0 : Int), (4 : Int))) else (((money_signed.f (x1.1, false))).bind fun (x2 : (Int × Int)) => (bif (x2.2 != (0 : Int)) then (some ((0 : Int), (4 : Int))) else (((money_Text.f x2.1)).bind fun (x3 : ByteArray) => (bif (!((ByteArray.toList x3) == (ByteArray.toList a))) then (some ((0 : Int), (4 : Int))) else (some (x2.1, (0 : Int))))))))) else none))))
theorem money_Parse.ok : ∀ a : Vals money_Parse.As.tys, fnK P money_Parse.H (lp []) 41 money_Parse.As money_Parse.m a some = money_Parse.f a := fun a => by kernel_rfl
noncomputable abbrev money_Parse.row : Row := fnRow 41 money_Parse.As money_Parse.m money_Parse.f
theorem money_Parse.row_ok : RowOK P G1 money_Parse.row := row_told money_Parse.hok (lp_of (l := []) trivial) (fun _ => rfl) money_Parse.ok
end Go.Proofs.YtnnebljljmpdkaaDoor
end
