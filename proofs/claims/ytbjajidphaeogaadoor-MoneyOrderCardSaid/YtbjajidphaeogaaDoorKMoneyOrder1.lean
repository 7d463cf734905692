/- Of two amounts the greater one has the greater sum with any third one, where neither is too great; a product by a small number is as often added up. -/
import Derived.WalkKit
import Derived.ProofKit
import Derived.OpenShut
import Derived.ShutString
import Derived.ChangeOld
import Derived.Carry
import Derived.Below
import Derived.SizedLaws
import Derived.Test.YtbjajidphaeogaaDoorProg
import Derived.KernelRfl
import Derived.Laws.Externs
import Derived.Lib.Bytealg
import Derived.Shelf.Strconv.Itoa1
import Derived.Shelf.Strconv.Itoa2
import Derived.Shelf.LaysM
import Derived.Lib.Walk
import Derived.Lib.ItoaMem
import Derived.BigCall
import Derived.BigGuard
import Derived.Test.YtbjajidphaeogaaDoorRows
import Derived.Test.YtbjajidphaeogaaDoorCards
import Derived.Test.YtbjajidphaeogaaDoorTie
import Derived.SevenTiedAt
import Derived.LaidMore
import Derived.Test.YtbjajidphaeogaaDoorW3
section
/- A law's call, from its arguments as they may be read: it returns true, and what was handed in reads as it did. By this session. -/
set_option linter.unusedVariables false
set_option linter.unusedSimpArgs false
namespace Go.Fw
open Go.ChangeShapes Go.WideShapes Go.ChangeAt Go.RowKit
/-- are these types of the program these of plain data? -/
def okTys (P : Program) : List TypeId → List Ty → Bool
  | [], [] => true
  | t :: ts, T :: Ts => okTy P 40 t T && (P.readableRec t && (decide (t < P.types.size) && okTys P ts Ts))
  | _, _ => false
def FitAll : (Ts : List Ty) → Vals Ts → Prop
  | [], _ => True
  | [T], x => T.fit x
  | T :: T' :: Ts, x => T.fit x.1 ∧ FitAll (T' :: Ts) x.2
section
variable {P : Program} {H : Type} {enc : TypeId × Value → H} {W : World} {base : Nat}
theorem read_all : ∀ {ts : List TypeId} {Ts : List Ty} {vs : List Value} {ds : List (DataW H)} {ps : List MemPlace}, okTys P ts Ts = true → DataW.TrodAll enc P W 0 (fun _ => true) true ts vs ds ps →
    (∀ (j : Nat) t v, ts[j]? = some t → vs[j]? = some v → Value.okWide P W .any base t v) →
    ∃ a : Vals Ts, FitAll Ts a ∧ ds.length = ts.length ∧ vs.length = (elts Ts a).length ∧ (∀ (j : Nat) (d : D), (elts Ts a)[j]? = some d → ∃ v, vs[j]? = some v ∧ RelD W (fun b => b < W.heap.size) d v)
  | [], [], vs, ds, ps, hk, h, hv => by
    obtain ⟨rfl, rfl, rfl⟩ := trodAll_nil h
    exact ⟨(), trivial, rfl, rfl, fun j d hd => by simp [elts] at hd⟩
  | [], _ :: _, vs, ds, ps, hk, h, hv => by simp [okTys] at hk
  | _ :: _, [], vs, ds, ps, hk, h, hv => by simp [okTys] at hk
  | t :: ts, T :: Ts, vs, ds, ps, hk, h, hv => by
    simp only [okTys, Bool.and_eq_true] at hk
    obtain ⟨hk, _, _, hks⟩ := hk
    obtain ⟨v, vs', d, ds', p, q, rfl, rfl, rfl, h0, h1⟩ := trodAll_cons h
    obtain ⟨y, hy, hr⟩ := read_arg hk (hv 0 t v rfl rfl) h0
    obtain ⟨a, ha, hl, hls, hrs⟩ := read_all hks h1 fun j t v ht hj => hv (j + 1) t v ht hj
    cases Ts with
    | nil =>
      cases ts with
      | cons => simp [okTys] at hks
      | nil =>
        obtain ⟨rfl, rfl, rfl⟩ := trodAll_nil h1
        refine ⟨y, hy, rfl, rfl, fun j d hd => ?_⟩
        cases j with
        | zero => simp [elts] at hd; subst hd; exact ⟨v, rfl, hr⟩
        | succ j => simp [elts] at hd
    | cons T' Ts =>
      refine ⟨(y, a), ⟨hy, ha⟩, by simp [hl], by simp [elts, hls], fun j d hd => ?_⟩
      cases j with
      | zero => simp [elts] at hd; subst hd; exact ⟨v, rfl, hr⟩
      | succ j => simp only [elts, List.getElem?_cons_succ] at hd; exact hrs j d hd
theorem trod_back (hl : laidOutB P = true) {W' : World} (hb : Below W.heap.size W W') : ∀ {ts : List TypeId} {Ts : List Ty} {vs : List Value} {ds : List (DataW H)} {ps : List MemPlace}, okTys P ts Ts = true → DataW.TrodAll enc P W 0 (fun _ => true) true ts vs ds ps →
    DataW.TrodAll enc P W' 0 (fun b => decide (b < W.heap.size)) true ts vs ds ps
  | [], [], vs, ds, ps, hk, h => by
    obtain ⟨rfl, rfl, rfl⟩ := trodAll_nil h
    exact trodAll_mk0
  | [], _ :: _, vs, ds, ps, hk, h => by simp [okTys] at hk
  | _ :: _, [], vs, ds, ps, hk, h => by simp [okTys] at hk
  | t :: ts, T :: Ts, vs, ds, ps, hk, h => by
    simp only [okTys, Bool.and_eq_true, decide_eq_true_eq] at hk
    obtain ⟨hk, hrr, hsz, hks⟩ := hk
    obtain ⟨v, vs', d, ds', p, q, rfl, rfl, rfl, h0, h1⟩ := trodAll_cons h
    have lt : ∀ x ∈ p, x.block < W.heap.size := by
      obtain ⟨m, hm⟩ := h0
      exact DataW.trod_lt m _ _ _ hm
    exact trodAll_cons_mk (Below.trod hl hrr hsz h0 hb lt) (trod_back hl hb hks h1)
/-- a law's call -/
theorem law_call {G : Nat → Option (List D)} {fn : Func} {g : FuncId} {As : Shs} {F : Vals As.tys → Option Bool} {s : ChangeSpec} {tb : TypeId} (hl : laidOutB P = true)
    (hok : RowOK P G (fnRow g As [(false, .b)] F)) (hgl : Glob ⟨W, fun b => b < W.heap.size, fun _ => False, fun _ => 0, fun _ => 0, G⟩) (hty : okTys P fn.params.toList As.tys = true) (hdec : ∀ a : Vals As.tys, decArgs As (elts As.tys a) = some a)
    (hres : fn.resultTypes = #[tb]) (htb : P.underlying tb = some .bool) (hvars : s.vars = []) (hspec : ∀ ds : List (DataW H), ds.length = fn.params.toList.length → (s.fn H ds).results = [.lit (.bool true)] ∧ (s.fn H ds).args = ds ∧ (s.fn H ds).vars = [])
    (hlaw : ∀ a : Vals As.tys, FitAll As.tys a → F a = some true)
    {args : Array Value} {ds gs : List (DataW H)} {before : List MemPlace} (hval : ∀ (j : Nat) t v, fn.params[j]? = some t → args[j]? = some v → Value.okWide P W .any base t v)
    (hW : DataW.Whole enc P fn.params.toList s.vars false W args.toList ds gs before) :
    Calls P g args W fun e W' => ∃ v, e = .returned v ∧ s.post enc P fn false true false false W args v W' := by
  have hW' := hW
  obtain ⟨p, q, hA, hV, rfl, hfz, hnd⟩ := hW
  obtain ⟨a, ha, hdl, hvl, hr⟩ := read_all hty hA fun j t v ht hv => hval j t v (by rw [← Array.getElem?_toList]; exact ht) (by rw [← Array.getElem?_toList]; exact hv)
  rw [hvars] at hV
  obtain ⟨rfl, rfl⟩ := trodVars_none hV
  have call := (hok _ a true (hdec a) (hlaw a ha)).2
  refine (top_call (W := W) (vs := args) call hgl (by rw [← Array.length_toList]; exact hvl) (fun j d hd => ?_)).mono ?_
  · obtain ⟨v, hv, hrel⟩ := hr j d hd
    rw [Array.getElem?_toList] at hv
    rw [Array.getD_eq_getD_getElem?, hv]
    exact hrel
  · rintro e W' ⟨⟨v, I', rfl, hx⟩, bel⟩
    have hv : v = .bool true := by
      have hx' : RelX W' I' (fun _ => False) (.b true) v := hx
      cases hx'; rfl
    subst hv
    obtain ⟨s1, s2, s3⟩ := hspec (ds ++ []) (by rw [List.append_nil]; exact hdl)
    refine ⟨_, rfl, ds, [], p ++ [], [], p, [], hW', ?_, ?_, ?_, bel.frame _, fun h => by cases h⟩
    · rw [s1, hres]
      exact trodAll_mk1 (shut_bool htb _)
    · rw [s2, List.append_nil]
      exact trod_back hl bel hty hA
    · rw [s3, hvars]; rfl
end
end Go.Fw
end
section
/- Loops as rounds, texts and numbers: plain laws. By this session. -/
set_option linter.unusedVariables false
set_option linter.unusedSimpArgs false
namespace Go.Fw
theorem wrap_i64 {n : Int} (h1 : -9223372036854775808 ≤ n) (h2 : n ≤ 9223372036854775807) : IntKind.wrap .i64 n = n := by rw [IntKind.wrap_i64]; omega
theorem wrap_u64 (n : Int) : IntKind.wrap .u64 n = n % 18446744073709551616 := by
  show (if (false && decide (n % 18446744073709551616 ≥ 9223372036854775808)) = true then n % 18446744073709551616 - 18446744073709551616 else n % 18446744073709551616) = _
  simp
theorem wrap_u8 (n : Int) : IntKind.wrap .u8 n = n % 256 := by
  show (if (false && decide (n % 256 ≥ 128)) = true then n % 256 - 256 else n % 256) = _
  simp
theorem wrap_up {n : Nat} (h : n < 9223372036854775807) : IntKind.wrap .i64 ((n : Int) + 1) = ((n + 1 : Nat) : Int) := by rw [wrap_i64 (by omega) (by omega)]; omega
theorem bt_bound (s : ByteArray) (i : Nat) : 0 ≤ bt s i ∧ bt s i ≤ 255 := by
  unfold bt
  have := (s.data.toList.getD i 0).toNat_lt
  omega
section
variable {S R : Type} {t : S → Option (S ⊕ R)}
theorem rounds_end {s : S} {r : R} (h : t s = some (.inr r)) : rounds t s = some r := by rw [rounds_eq, h]
theorem rounds_next {s s' : S} (h : t s = some (.inl s')) : rounds t s = rounds t s' := by rw [rounds_eq, h]
theorem rounds_to (st : Nat → S) (n : Nat) (h : ∀ i, i < n → t (st i) = some (.inl (st (i + 1)))) : rounds t (st 0) = rounds t (st n) := by
  induction n with
  | zero => rfl
  | succ n ih => rw [ih fun i hi => h i (by omega), rounds_next (h n (by omega))]
/-- rounds that go on while it is so -/
theorem rounds_all (st : Nat → S) (p : Nat → Bool) (out fin : R) (n : Nat) (h : ∀ i, i < n → t (st i) = some (bif p i then .inl (st (i + 1)) else .inr out)) (hf : t (st n) = some (.inr fin)) :
    rounds t (st 0) = some (bif (List.range n).all p then fin else out) := by
  have go : ∀ k, k ≤ n → rounds t (st 0) = bif (List.range k).all p then rounds t (st k) else some out := by
    intro k
    induction k with
    | zero => intro _; rfl
    | succ k ih =>
      intro hk
      rw [ih (by omega), List.range_succ, List.all_append]
      cases (List.range k).all p with
      | false => rfl
      | true =>
        have h1 := h k (by omega)
        cases hp : p k with
        | false => rw [hp] at h1; simp [hp, rounds_end h1]
        | true => rw [hp] at h1; simp [hp, rounds_next h1]
  rw [go n (Nat.le_refl _), rounds_end hf]
  cases (List.range n).all p <;> rfl
end
/-- sums of so many -/
def sumTo (f : Nat → Int) : Nat → Int
  | 0 => 0
  | n + 1 => sumTo f n + f n
theorem sumTo_back (f : Nat → Int) : ∀ n, sumTo (fun j => f (n - 1 - j)) n = sumTo f n := by
  have first : ∀ (g : Nat → Int) (n : Nat), sumTo g (n + 1) = g 0 + sumTo (fun j => g (j + 1)) n := by
    intro g n
    induction n with
    | zero => simp [sumTo]
    | succ n ih => rw [sumTo, ih, sumTo]; omega
  have same : ∀ (g h : Nat → Int) (n : Nat), (∀ j, j < n → g j = h j) → sumTo g n = sumTo h n := by
    intro g h n
    induction n with
    | zero => intro _; rfl
    | succ n ih => intro hh; rw [sumTo, sumTo, ih fun j hj => hh j (by omega), hh n (by omega)]
  intro n
  induction n with
  | zero => rfl
  | succ n ih =>
    rw [first, sumTo, ← ih, same (fun j => f (n + 1 - 1 - (j + 1))) (fun j => f (n - 1 - j)) n fun j hj => by
      have : n + 1 - 1 - (j + 1) = n - 1 - j := by omega
      simp only [this]]
    simp only [Nat.add_sub_cancel, Nat.sub_zero]
    omega
theorem sumTo_bound {f : Nat → Int} {b : Int} : ∀ {n : Nat}, (∀ j, j < n → 0 ≤ f j ∧ f j ≤ b) → 0 ≤ sumTo f n ∧ sumTo f n ≤ b * n
  | 0, _ => by simp [sumTo]
  | n + 1, h => by
    have ih := sumTo_bound (f := f) (b := b) (n := n) fun j hj => h j (by omega)
    have := h n (by omega)
    have e : b * ((n + 1 : Nat) : Int) = b * n + b := by rw [Int.natCast_add, Int.mul_add]; simp
    rw [sumTo, e]
    omega
theorem sumTo_same {g h : Nat → Int} : ∀ {n : Nat}, (∀ j, j < n → g j = h j) → sumTo g n = sumTo h n
  | 0, _ => rfl
  | n + 1, hh => by rw [sumTo, sumTo, sumTo_same fun j hj => hh j (by omega), hh n (by omega)]
/-! ### lists -/
theorem getD_at {α : Type} {l : List α} {i : Nat} {d : α} (h : i < l.length) : l.getD i d = l[i] := by simp [List.getD_eq_getElem?_getD, List.getElem?_eq_getElem h]
theorem take_up {α : Type} {l : List α} {i : Nat} (d : α) (h : i < l.length) : l.take (i + 1) = l.take i ++ [l.getD i d] := by
  rw [List.take_succ_eq_append_getElem h, getD_at h]
theorem range_all {α : Type} (p : α → Bool) (d : α) (l : List α) : ((List.range l.length).all fun i => p (l.getD i d)) = l.all p := by
  rw [Bool.eq_iff_iff, List.all_eq_true, List.all_eq_true]
  constructor
  · intro h x hx
    obtain ⟨i, hi, rfl⟩ := List.getElem_of_mem hx
    have := h i (List.mem_range.2 hi)
    rwa [getD_at hi] at this
  · intro h i hi
    have hi := List.mem_range.1 hi
    rw [getD_at hi]
    exact h _ (List.getElem_mem hi)
/-- is there room for one more? -/
theorem room {n m : Nat} (w k : Nat) (h : n ≤ m) (hw : (m + 1) * w ≤ k) : Nat.ble ((n + 1) * w) k = true := Nat.ble_eq_true_of_le (Nat.le_trans (Nat.mul_le_mul_right w (by omega)) hw)
end Go.Fw
end
section
/- The program of this seat, the types of its data, and its functions without a body. By this session. -/
set_option linter.unusedVariables false
set_option linter.unusedSimpArgs false
namespace Go.Proofs.YtbjajidphaeogaaDoor
open Go Go.Fw
noncomputable abbrev P := Tryd.prog
abbrev G0 : Nat → Option (List D) := fun g => bif g == 0 then some [.i .u64 1, .i .u64 10, .i .u64 100, .i .u64 1000, .i .u64 10000, .i .u64 100000, .i .u64 1000000, .i .u64 10000000, .i .u64 100000000, .i .u64 1000000000, .i .u64 10000000000, .i .u64 100000000000, .i .u64 1000000000000, .i .u64 10000000000000, .i .u64 100000000000000, .i .u64 1000000000000000, .i .u64 10000000000000000, .i .u64 100000000000000000, .i .u64 1000000000000000000, .i .u64 10000000000000000000] else none
abbrev G1 : Nat → Option (List D) := fun g => bif g == 0 then some [.i .u64 1, .i .u64 10, .i .u64 100, .i .u64 1000, .i .u64 10000, .i .u64 100000, .i .u64 1000000, .i .u64 10000000, .i .u64 100000000, .i .u64 1000000000, .i .u64 10000000000, .i .u64 100000000000, .i .u64 1000000000000, .i .u64 10000000000000, .i .u64 100000000000000, .i .u64 1000000000000000, .i .u64 10000000000000000, .i .u64 100000000000000000, .i .u64 1000000000000000000, .i .u64 10000000000000000000] else bif g == 2 then some [.er true] else bif g == 3 then some [.er true] else none
abbrev G2 : Nat → Option (List D) := fun g => bif g == 0 then some [.i .u64 1, .i .u64 10, .i .u64 100, .i .u64 1000, .i .u64 10000, .i .u64 100000, .i .u64 1000000, .i .u64 10000000, .i .u64 100000000, .i .u64 1000000000, .i .u64 10000000000, .i .u64 100000000000, .i .u64 1000000000000, .i .u64 10000000000000, .i .u64 100000000000000, .i .u64 1000000000000000, .i .u64 10000000000000000, .i .u64 100000000000000000, .i .u64 1000000000000000000, .i .u64 10000000000000000000] else bif g == 2 then some [.er true] else bif g == 3 then some [.er true] else bif g == 7 then some [.i .u8 128, .i .u8 191, .i .u8 160, .i .u8 191, .i .u8 128, .i .u8 159, .i .u8 144, .i .u8 191, .i .u8 128, .i .u8 143, .i .u8 0, .i .u8 0, .i .u8 0, .i .u8 0, .i .u8 0, .i .u8 0, .i .u8 0, .i .u8 0, .i .u8 0, .i .u8 0, .i .u8 0, .i .u8 0, .i .u8 0, .i .u8 0, .i .u8 0, .i .u8 0, .i .u8 0, .i .u8 0, .i .u8 0, .i .u8 0, .i .u8 0, .i .u8 0] else none
theorem g01 : ∀ g cs, G0 g = some cs → G1 g = some cs := by
  intro g cs h
  unfold G0 at h
  unfold G1
  cases h0 : (g == 0) with
  | true => rw [h0] at h; exact h
  | false =>
  rw [h0] at h
  simp only [cond_false] at h ⊢
  cases h
theorem g02 : ∀ g cs, G0 g = some cs → G2 g = some cs := by
  intro g cs h
  unfold G0 at h
  unfold G2
  cases h0 : (g == 0) with
  | true => rw [h0] at h; exact h
  | false =>
  rw [h0] at h
  simp only [cond_false] at h ⊢
  cases h
theorem g12 : ∀ g cs, G1 g = some cs → G2 g = some cs := by
  intro g cs h
  unfold G1 at h
  unfold G2
  cases h0 : (g == 0) with
  | true => rw [h0] at h; exact h
  | false =>
  rw [h0] at h
  simp only [cond_false] at h ⊢
  cases h2 : (g == 2) with
  | true => rw [h2] at h; exact h
  | false =>
  rw [h2] at h
  simp only [cond_false] at h ⊢
  cases h3 : (g == 3) with
  | true => rw [h3] at h; exact h
  | false =>
  rw [h3] at h
  simp only [cond_false] at h ⊢
  cases h
abbrev T_api_Account : Ty := (.g (.p (.i .i64) .s))
abbrev T_utf8_acceptRange : Ty := (.g (.p (.i .u8) (.i .u8)))
abbrev T_api_Line : Ty := (.g (.p T_api_Account (.i .i64)))
abbrev T_bursarlaw01_Back : Ty := (.g (.p (.i .i64) (.p (.i .i64) (.p (.l (.i .i64)) (.i .u16)))))
abbrev T_api_Entry : Ty := (.g (.p (.i .i64) (.p .s (.l T_api_Line))))
abbrev T_api_Hold : Ty := (.g (.p .s (.p .s (.p .s (.p (.i .i64) (.p (.i .i64) (.p (.i .i64) .b)))))))
abbrev T_bursarlaw12_Moved : Ty := (.g (.p (.i .i64) (.p .s (.p T_api_Account (.p T_api_Account (.i .i64))))))
def add64 : List D → Option (Bool × D) := fun ds => match ds with
  | [.i .u64 x, .i .u64 y, .i .u64 c] => some (decide (0 ≤ x) && decide (0 ≤ y) && decide (0 ≤ c) && decide (c ≤ 1), .tp [.i .u64 ((x + y + c) % 18446744073709551616), .i .u64 ((x + y + c) / 18446744073709551616)])
  | _ => none
theorem add64_ok : ExtOK P 53 (bare add64) := by
  intro ds r h w I vs hsz hv
  unfold bare add64 at h
  split at h
  · rename_i b q hq
    obtain ⟨hb, h⟩ := cond_some h
    injection h with h
    subst h
    split at hq
    · rename_i x y c
      injection hq with hq
      injection hq with hq1 hq2
      subst hq2
      rw [hb] at hq1
      simp only [Bool.and_eq_true, decide_eq_true_eq] at hq1
      have e0 := hv 0 _ rfl
      have e1 := hv 1 _ rfl
      have e2 := hv 2 _ rfl
      have hvs : vs = #[.int .u64 x, .int .u64 y, .int .u64 c] := by
        have : vs = #[vs.getD 0 undef, vs.getD 1 undef, vs.getD 2 undef] := by
          apply Array.ext
          · simpa using hsz
          · intro i hi hi'
            simp at hi'
            have : i = 0 ∨ i = 1 ∨ i = 2 := by omega
            rcases this with rfl | rfl | rfl <;> simp [Array.getD_eq_getD_getElem?, Array.getElem?_eq_getElem hi]
        rw [this]
        generalize vs.getD 0 undef = a0 at e0
        generalize vs.getD 1 undef = a1 at e1
        generalize vs.getD 2 undef = a2 at e2
        cases e0; cases e1; cases e2
        rfl
      refine ⟨_, by rw [hvs, run_callFunc_extern Tryd.func53 (by kernel_rfl) (by kernel_rfl) (by kernel_rfl) (e := add64Entry) (by kernel_rfl), run_add64 x y c (by omega) (by omega) (by omega) (by omega)]; rfl, ?_⟩
      refine .tp _ _ rfl fun j d hj => ?_
      match j, hj with
      | 0, hj => simp at hj; subst hj; exact .i _ _
      | 1, hj => simp at hj; subst hj; exact .i _ _
      | j + 2, hj => simp at hj
    · cases hq
  · cases h
abbrev E0 : FuncId → Option (List D → Option (Bool × D)) := fun g => bif g == 53 then some add64 else none
theorem e0_ok : ∀ g f, E0 g = some f → ExtOK P g (bare f) := by
  intro g f h
  unfold E0 at h
  cases hg53 : (g == 53) with
  | true =>
    rw [hg53] at h
    injection h with h
    subst h
    have : g = 53 := by simpa using hg53
    subst this
    exact add64_ok
  | false =>
  rw [hg53] at h
  simp only [cond_false] at h
  cases h
end Go.Proofs.YtbjajidphaeogaaDoor
end
section
/- The Go function money.Sum, as a Lean function, and that it is this one. Written by a program of this session. -/
set_option linter.unusedVariables false
set_option maxRecDepth 100000
namespace Go.Proofs.YtbjajidphaeogaaDoor
open Go Go.Fw
abbrev money_Sum.As : Shs := (.cons (.x (.l (.i .i64))) .nil)
abbrev money_Sum.m : Back := [(false, (.i .i64)), (false, (.i .i64))]
noncomputable abbrev money_Sum.H : HK := hk P G0 E0 [] noLoops 4
theorem money_Sum.hok : HKOK P money_Sum.H := hk_ok e0_ok (rows_ok (ws := []) trivial) (fun g n => noLoops_ok g n) 4
abbrev money_Sum.sh4 : SSh := ⟨[(4, (.x (.i .i64))), (5, (.x (.i .u64))), (10, (.x (.l (.i .i64)))), (11, (.x (.i .i64))), (12, (.x (.i .i64)))], []⟩
abbrev money_Sum.os4 : PEnds := [((.exit 0), ⟨[(4, (.x (.i .i64))), (5, (.x (.i .u64)))], []⟩)]
noncomputable def money_Sum.t4 (s : (Int × (Int × ((List Int) × (Int × Int))))) : Option ((Int × (Int × ((List Int) × (Int × Int)))) ⊕ ((Int × Int))) := (bif (decide ((s.2.2.2.2 < s.2.2.2.1))) then (bif ((decide (((0 : Int) ≤ s.2.2.2.2))) && (decide ((s.2.2.2.2 < ((List.length s.2.2.1) : Int))))) then (bif ((((decide (((0 : Int) ≤ s.2.1))) && (decide (((0 : Int) ≤ (IntKind.wrap .u64 (List.getD s.2.2.1 (Int.toNat s.2.2.2.2) (0 : Int))))))) && true) && true) then (some (.inl ((IntKind.wrap .i64 (s.1 + (IntKind.wrap .i64 ((Int.fdiv (List.getD s.2.2.1 (Int.toNat s.2.2.2.2) (0 : Int)) (9223372036854775808 : Int)) + (IntKind.wrap .i64 (HDiv.hDiv ((s.2.1 + (IntKind.wrap .u64 (List.getD s.2.2.1 (Int.toNat s.2.2.2.2) (0 : Int)))) + (0 : Int)) (18446744073709551616 : Int))))))), ((HMod.hMod ((s.2.1 + (IntKind.wrap .u64 (List.getD s.2.2.1 (Int.toNat s.2.2.2.2) (0 : Int)))) + (0 : Int)) (18446744073709551616 : Int)), (s.2.2.1, (s.2.2.2.1, (IntKind.wrap .i64 (s.2.2.2.2 + (1 : Int))))))))) else none) else none) else (some (.inr (s.1, s.2.1))))
theorem money_Sum.t4_ok : ∀ s : Vals money_Sum.sh4.tys, turnK P money_Sum.H (lp []) (bodyAt (codeOf P 16) 4) 0 money_Sum.sh4 money_Sum.os4 s some = money_Sum.t4 s := fun s => by kernel_rfl
noncomputable def money_Sum.l4 : (Int × (Int × ((List Int) × (Int × Int)))) → Option ((Int × Int)) := rounds money_Sum.t4
noncomputable def money_Sum.f (a : (List Int)) : Option (Int × Int) := (((money_Sum.l4 ((0 : Int), ((0 : Int), (a, (((List.length a) : Int), (0 : Int))))))).bind fun (x1 : (Int × Int)) => (bif (x1.1 != (Int.fdiv (IntKind.wrap .i64 x1.2) (9223372036854775808 : Int))) then (some ((0 : Int), (2 : Int))) else (some ((IntKind.wrap .i64 x1.2), (0 : Int)))))
theorem money_Sum.ok : ∀ a : Vals money_Sum.As.tys, fnK P money_Sum.H (lp [(4, NodeT.summ ⟨money_Sum.sh4, money_Sum.os4, money_Sum.l4⟩ 0)]) 16 money_Sum.As money_Sum.m a some = money_Sum.f a := fun a => by kernel_rfl
noncomputable abbrev money_Sum.row : Row := fnRow 16 money_Sum.As money_Sum.m money_Sum.f
theorem money_Sum.row_ok : RowOK P G0 money_Sum.row := row_told money_Sum.hok (lp_of (l := [(4, NodeT.summ ⟨money_Sum.sh4, money_Sum.os4, money_Sum.l4⟩ 0)]) ⟨loop_sum money_Sum.hok (by kernel_rfl) (by kernel_rfl) (l := []) trivial money_Sum.sh4 money_Sum.os4 (by kernel_rfl) money_Sum.t4 money_Sum.t4_ok, trivial⟩) (fun _ => rfl) money_Sum.ok
end Go.Proofs.YtbjajidphaeogaaDoor
end
section
/- The Go function bursarref01.Sum, as a Lean function, and that it is this one. Written by a program of this session. -/
set_option linter.unusedVariables false
set_option maxRecDepth 100000
namespace Go.Proofs.YtbjajidphaeogaaDoor
open Go Go.Fw
abbrev bursarref01_Sum.As : Shs := (.cons (.x (.l (.i .i64))) .nil)
abbrev bursarref01_Sum.m : Back := [(false, (.i .i64)), (false, .b)]
noncomputable abbrev bursarref01_Sum.H : HK := hk P G0 E0 [] noLoops 4
theorem bursarref01_Sum.hok : HKOK P bursarref01_Sum.H := hk_ok e0_ok (rows_ok (ws := []) trivial) (fun g n => noLoops_ok g n) 4
abbrev bursarref01_Sum.sh4 : SSh := ⟨[(0, (.x (.l (.i .i64)))), (4, (.own 0 1)), (5, (.own 1 1)), (6, (.x (.i .i64)))], [.arrN (.i .i64), .arrN (.i .i64)]⟩
abbrev bursarref01_Sum.os4 : PEnds := [((.exit 0), ⟨[(4, (.x (.l (.i .i64)))), (5, (.x (.l (.i .i64))))], []⟩)]
noncomputable def bursarref01_Sum.t4 (s : ((List Int) × (Int × ((List Int) × (List Int))))) : Option (((List Int) × (Int × ((List Int) × (List Int)))) ⊕ (((List Int) × (List Int)))) := (bif (decide ((s.2.1 < ((List.length s.1) : Int)))) then (bif ((decide (((0 : Int) ≤ s.2.1))) && (decide ((s.2.1 < ((List.length s.1) : Int))))) then (bif (decide (((List.getD s.1 (Int.toNat s.2.1) (0 : Int)) ≥ (0 : Int)))) then (bif ((decide (((0 : Int) ≤ s.2.1))) && (decide ((s.2.1 < ((List.length s.1) : Int))))) then (bif ((true && (Nat.ble (((List.length s.2.2.1) + (List.length ((List.getD s.1 (Int.toNat s.2.1) (0 : Int)) :: []))) * 8) 140737488355328)) && (Nat.ble ((List.length s.2.2.1) + (List.length ((List.getD s.1 (Int.toNat s.2.1) (0 : Int)) :: []))) 140737488355328)) then (some (.inl (s.1, ((IntKind.wrap .i64 (s.2.1 + (1 : Int))), ((s.2.2.1 ++ ((List.getD s.1 (Int.toNat s.2.1) (0 : Int)) :: [])), s.2.2.2))))) else none) else none) else (bif ((decide (((0 : Int) ≤ s.2.1))) && (decide ((s.2.1 < ((List.length s.1) : Int))))) then (bif ((true && (Nat.ble (((List.length s.2.2.2) + (List.length ((List.getD s.1 (Int.toNat s.2.1) (0 : Int)) :: []))) * 8) 140737488355328)) && (Nat.ble ((List.length s.2.2.2) + (List.length ((List.getD s.1 (Int.toNat s.2.1) (0 : Int)) :: []))) 140737488355328)) then (some (.inl (s.1, ((IntKind.wrap .i64 (s.2.1 + (1 : Int))), (s.2.2.1, (s.2.2.2 ++ ((List.getD s.1 (Int.toNat s.2.1) (0 : Int)) :: []))))))) else none) else none)) else none) else (some (.inr s.2.2)))
theorem bursarref01_Sum.t4_ok : ∀ s : Vals bursarref01_Sum.sh4.tys, turnK P bursarref01_Sum.H (lp []) (bodyAt (codeOf P 17) 4) 0 bursarref01_Sum.sh4 bursarref01_Sum.os4 s some = bursarref01_Sum.t4 s := by rintro ⟨s0, s1, s2, s3⟩; cases s2 <;> cases s3 <;> kernel_rfl
noncomputable def bursarref01_Sum.l4 : ((List Int) × (Int × ((List Int) × (List Int)))) → Option (((List Int) × (List Int))) := rounds bursarref01_Sum.t4
abbrev bursarref01_Sum.sh8 : SSh := ⟨[(4, (.x (.l (.i .i64)))), (5, (.x (.l (.i .i64)))), (7, (.x (.i .i64))), (8, (.x (.i .i64))), (9, (.x (.i .i64)))], []⟩
abbrev bursarref01_Sum.sh8_0 : SSh := ⟨[(4, (.x (.l (.i .i64)))), (5, (.x (.l (.i .i64)))), (7, (.x (.i .i64))), (8, (.x (.i .i64))), (9, (.x (.i .i64)))], []⟩
abbrev bursarref01_Sum.os8_0 : PEnds := [(.n, ⟨[(4, (.x (.l (.i .i64)))), (5, (.x (.l (.i .i64)))), (7, (.x (.i .i64))), (8, (.x (.i .i64))), (9, (.x (.i .i64))), (45, (.x .b))], []⟩)]
noncomputable def bursarref01_Sum.l8_0 (s : ((List Int) × ((List Int) × (Int × (Int × Int))))) : Option (((List Int) × ((List Int) × (Int × (Int × (Int × Bool)))))) := (bif (decide ((s.2.2.2.1 < ((List.length s.1) : Int)))) then (some (s.1, (s.2.1, (s.2.2.1, (s.2.2.2.1, (s.2.2.2.2, true)))))) else (some (s.1, (s.2.1, (s.2.2.1, (s.2.2.2.1, (s.2.2.2.2, (decide ((s.2.2.2.2 < ((List.length s.2.1) : Int)))))))))))
theorem bursarref01_Sum.l8_0_ok : ∀ s : Vals bursarref01_Sum.sh8_0.tys, nodeK P bursarref01_Sum.H (lp []) (placeAt (bodyAt (codeOf P 17) 8) 0) 0 bursarref01_Sum.sh8_0 bursarref01_Sum.os8_0 s some = bursarref01_Sum.l8_0 s := fun s => by kernel_rfl
abbrev bursarref01_Sum.sh8_4 : SSh := ⟨[(4, (.x (.l (.i .i64)))), (5, (.x (.l (.i .i64)))), (7, (.x (.i .i64))), (8, (.x (.i .i64))), (9, (.x (.i .i64)))], []⟩
abbrev bursarref01_Sum.os8_4 : PEnds := [(.n, ⟨[(4, (.x (.l (.i .i64)))), (5, (.x (.l (.i .i64)))), (7, (.x (.i .i64))), (8, (.x (.i .i64))), (9, (.x (.i .i64))), (59, (.x .b))], []⟩)]
noncomputable def bursarref01_Sum.l8_4 (s : ((List Int) × ((List Int) × (Int × (Int × Int))))) : Option (((List Int) × ((List Int) × (Int × (Int × (Int × Bool)))))) := (bif (decide ((s.2.2.2.2 ≥ ((List.length s.2.1) : Int)))) then (some (s.1, (s.2.1, (s.2.2.1, (s.2.2.2.1, (s.2.2.2.2, true)))))) else (bif (decide ((s.2.2.2.1 < ((List.length s.1) : Int)))) then (some (s.1, (s.2.1, (s.2.2.1, (s.2.2.2.1, (s.2.2.2.2, (decide ((s.2.2.1 < (0 : Int)))))))))) else (some (s.1, (s.2.1, (s.2.2.1, (s.2.2.2.1, (s.2.2.2.2, false))))))))
theorem bursarref01_Sum.l8_4_ok : ∀ s : Vals bursarref01_Sum.sh8_4.tys, nodeK P bursarref01_Sum.H (lp []) (placeAt (bodyAt (codeOf P 17) 8) 4) 0 bursarref01_Sum.sh8_4 bursarref01_Sum.os8_4 s some = bursarref01_Sum.l8_4 s := fun s => by kernel_rfl
abbrev bursarref01_Sum.sh8_5 : SSh := ⟨[(4, (.x (.l (.i .i64)))), (5, (.x (.l (.i .i64)))), (7, (.x (.i .i64))), (8, (.x (.i .i64))), (9, (.x (.i .i64))), (59, (.x .b))], []⟩
abbrev bursarref01_Sum.os8_5 : PEnds := [(.n, ⟨[(4, (.x (.l (.i .i64)))), (5, (.x (.l (.i .i64)))), (7, (.x (.i .i64))), (8, (.x (.i .i64))), (9, (.x (.i .i64))), (10, (.x (.i .i64)))], []⟩)]
noncomputable def bursarref01_Sum.l8_5 (s : ((List Int) × ((List Int) × (Int × (Int × (Int × Bool)))))) : Option (((List Int) × ((List Int) × (Int × (Int × (Int × Int)))))) := (bif s.2.2.2.2.2 then (bif ((decide (((0 : Int) ≤ s.2.2.2.1))) && (decide ((s.2.2.2.1 < ((List.length s.1) : Int))))) then (some (s.1, (s.2.1, (s.2.2.1, ((IntKind.wrap .i64 (s.2.2.2.1 + (1 : Int))), (s.2.2.2.2.1, (List.getD s.1 (Int.toNat s.2.2.2.1) (0 : Int)))))))) else none) else (bif ((decide (((0 : Int) ≤ s.2.2.2.2.1))) && (decide ((s.2.2.2.2.1 < ((List.length s.2.1) : Int))))) then (some (s.1, (s.2.1, (s.2.2.1, (s.2.2.2.1, ((IntKind.wrap .i64 (s.2.2.2.2.1 + (1 : Int))), (List.getD s.2.1 (Int.toNat s.2.2.2.2.1) (0 : Int)))))))) else none))
theorem bursarref01_Sum.l8_5_ok : ∀ s : Vals bursarref01_Sum.sh8_5.tys, nodeK P bursarref01_Sum.H (lp []) (placeAt (bodyAt (codeOf P 17) 8) 5) 0 bursarref01_Sum.sh8_5 bursarref01_Sum.os8_5 s some = bursarref01_Sum.l8_5 s := fun s => by kernel_rfl
abbrev bursarref01_Sum.sh8_10 : SSh := ⟨[(4, (.x (.l (.i .i64)))), (5, (.x (.l (.i .i64)))), (7, (.x (.i .i64))), (8, (.x (.i .i64))), (9, (.x (.i .i64))), (10, (.x (.i .i64)))], []⟩
abbrev bursarref01_Sum.os8_10 : PEnds := [(.n, ⟨[(4, (.x (.l (.i .i64)))), (5, (.x (.l (.i .i64)))), (7, (.x (.i .i64))), (8, (.x (.i .i64))), (9, (.x (.i .i64))), (10, (.x (.i .i64))), (89, (.x .b))], []⟩)]
noncomputable def bursarref01_Sum.l8_10 (s : ((List Int) × ((List Int) × (Int × (Int × (Int × Int)))))) : Option (((List Int) × ((List Int) × (Int × (Int × (Int × (Int × Bool))))))) := (bif (decide ((s.2.2.2.2.2 > (0 : Int)))) then (bif (decide ((s.2.2.1 > (IntKind.wrap .i64 ((9223372036854775807 : Int) - s.2.2.2.2.2))))) then (some (s.1, (s.2.1, (s.2.2.1, (s.2.2.2.1, (s.2.2.2.2.1, (s.2.2.2.2.2, true))))))) else (bif (decide ((s.2.2.2.2.2 < (0 : Int)))) then (some (s.1, (s.2.1, (s.2.2.1, (s.2.2.2.1, (s.2.2.2.2.1, (s.2.2.2.2.2, (decide ((s.2.2.1 < (IntKind.wrap .i64 ((-9223372036854775808 : Int) - s.2.2.2.2.2)))))))))))) else (some (s.1, (s.2.1, (s.2.2.1, (s.2.2.2.1, (s.2.2.2.2.1, (s.2.2.2.2.2, false))))))))) else (bif (decide ((s.2.2.2.2.2 < (0 : Int)))) then (some (s.1, (s.2.1, (s.2.2.1, (s.2.2.2.1, (s.2.2.2.2.1, (s.2.2.2.2.2, (decide ((s.2.2.1 < (IntKind.wrap .i64 ((-9223372036854775808 : Int) - s.2.2.2.2.2)))))))))))) else (some (s.1, (s.2.1, (s.2.2.1, (s.2.2.2.1, (s.2.2.2.2.1, (s.2.2.2.2.2, false)))))))))
theorem bursarref01_Sum.l8_10_ok : ∀ s : Vals bursarref01_Sum.sh8_10.tys, nodeK P bursarref01_Sum.H (lp []) (placeAt (bodyAt (codeOf P 17) 8) 10) 0 bursarref01_Sum.sh8_10 bursarref01_Sum.os8_10 s some = bursarref01_Sum.l8_10 s := fun s => by kernel_rfl
abbrev bursarref01_Sum.os8 : PEnds := [(.ret, ⟨[(2, (.x (.i .i64))), (3, (.x .b))], []⟩), ((.exit 2), ⟨[(7, (.x (.i .i64)))], []⟩)]
noncomputable def bursarref01_Sum.t8 (s : ((List Int) × ((List Int) × (Int × (Int × Int))))) : Option (((List Int) × ((List Int) × (Int × (Int × Int)))) ⊕ ((Int × Bool) ⊕ Int)) := (((bursarref01_Sum.l8_0 s)).bind fun (x5 : ((List Int) × ((List Int) × (Int × (Int × (Int × Bool)))))) => (bif x5.2.2.2.2.2 then (((bursarref01_Sum.l8_4 (x5.1, (x5.2.1, (x5.2.2.1, (x5.2.2.2.1, x5.2.2.2.2.1)))))).bind fun (x6 : ((List Int) × ((List Int) × (Int × (Int × (Int × Bool)))))) => (((bursarref01_Sum.l8_5 x6)).bind fun (x7 : ((List Int) × ((List Int) × (Int × (Int × (Int × Int)))))) => (((bursarref01_Sum.l8_10 x7)).bind fun (x8 : ((List Int) × ((List Int) × (Int × (Int × (Int × (Int × Bool))))))) => (bif x8.2.2.2.2.2.2 then (some (.inr (.inl ((0 : Int), false)))) else (some (.inl (x8.1, (x8.2.1, ((IntKind.wrap .i64 (x8.2.2.1 + x8.2.2.2.2.2.1)), (x8.2.2.2.1, x8.2.2.2.2.1)))))))))) else (some (.inr (.inr x5.2.2.1)))))
theorem bursarref01_Sum.t8_ok : ∀ s : Vals bursarref01_Sum.sh8.tys, turnK P bursarref01_Sum.H (lp [(0, NodeT.summ ⟨bursarref01_Sum.sh8_0, bursarref01_Sum.os8_0, bursarref01_Sum.l8_0⟩ 0), (4, NodeT.summ ⟨bursarref01_Sum.sh8_4, bursarref01_Sum.os8_4, bursarref01_Sum.l8_4⟩ 0), (5, NodeT.summ ⟨bursarref01_Sum.sh8_5, bursarref01_Sum.os8_5, bursarref01_Sum.l8_5⟩ 0), (10, NodeT.summ ⟨bursarref01_Sum.sh8_10, bursarref01_Sum.os8_10, bursarref01_Sum.l8_10⟩ 0)]) (bodyAt (codeOf P 17) 8) 0 bursarref01_Sum.sh8 bursarref01_Sum.os8 s some = bursarref01_Sum.t8 s := fun s => by kernel_rfl
noncomputable def bursarref01_Sum.l8 : ((List Int) × ((List Int) × (Int × (Int × Int)))) → Option ((Int × Bool) ⊕ Int) := rounds bursarref01_Sum.t8
noncomputable def bursarref01_Sum.f (a : (List Int)) : Option (Int × Bool) := (((bursarref01_Sum.l4 (a, ((0 : Int), ([], []))))).bind fun (x1 : ((List Int) × (List Int))) => (((bursarref01_Sum.l8 (x1.1, (x1.2, ((0 : Int), ((0 : Int), (0 : Int))))))).bind fun (x2 : ((Int × Bool) ⊕ Int)) => (match x2 with | .inl x3 => (some x3) | .inr x3 => (some (x3, true)))))
theorem bursarref01_Sum.ok : ∀ a : Vals bursarref01_Sum.As.tys, fnK P bursarref01_Sum.H (lp [(4, NodeT.summ ⟨bursarref01_Sum.sh4, bursarref01_Sum.os4, bursarref01_Sum.l4⟩ 0), (8, NodeT.summ ⟨bursarref01_Sum.sh8, bursarref01_Sum.os8, bursarref01_Sum.l8⟩ 0)]) 17 bursarref01_Sum.As bursarref01_Sum.m a some = bursarref01_Sum.f a := fun a => by kernel_rfl
noncomputable abbrev bursarref01_Sum.row : Row := fnRow 17 bursarref01_Sum.As bursarref01_Sum.m bursarref01_Sum.f
theorem bursarref01_Sum.row_ok : RowOK P G0 bursarref01_Sum.row := row_told bursarref01_Sum.hok (lp_of (l := [(4, NodeT.summ ⟨bursarref01_Sum.sh4, bursarref01_Sum.os4, bursarref01_Sum.l4⟩ 0), (8, NodeT.summ ⟨bursarref01_Sum.sh8, bursarref01_Sum.os8, bursarref01_Sum.l8⟩ 0)]) ⟨loop_sum bursarref01_Sum.hok (by kernel_rfl) (by kernel_rfl) (l := []) trivial bursarref01_Sum.sh4 bursarref01_Sum.os4 (by kernel_rfl) bursarref01_Sum.t4 bursarref01_Sum.t4_ok, ⟨loop_sum bursarref01_Sum.hok (by kernel_rfl) (by kernel_rfl) (l := [(0, NodeT.summ ⟨bursarref01_Sum.sh8_0, bursarref01_Sum.os8_0, bursarref01_Sum.l8_0⟩ 0), (4, NodeT.summ ⟨bursarref01_Sum.sh8_4, bursarref01_Sum.os8_4, bursarref01_Sum.l8_4⟩ 0), (5, NodeT.summ ⟨bursarref01_Sum.sh8_5, bursarref01_Sum.os8_5, bursarref01_Sum.l8_5⟩ 0), (10, NodeT.summ ⟨bursarref01_Sum.sh8_10, bursarref01_Sum.os8_10, bursarref01_Sum.l8_10⟩ 0)]) ⟨place_sum bursarref01_Sum.hok (by kernel_rfl) (l := []) trivial bursarref01_Sum.sh8_0 bursarref01_Sum.os8_0 bursarref01_Sum.l8_0 bursarref01_Sum.l8_0_ok, ⟨place_sum bursarref01_Sum.hok (by kernel_rfl) (l := []) trivial bursarref01_Sum.sh8_4 bursarref01_Sum.os8_4 bursarref01_Sum.l8_4 bursarref01_Sum.l8_4_ok, ⟨place_sum bursarref01_Sum.hok (by kernel_rfl) (l := []) trivial bursarref01_Sum.sh8_5 bursarref01_Sum.os8_5 bursarref01_Sum.l8_5 bursarref01_Sum.l8_5_ok, ⟨place_sum bursarref01_Sum.hok (by kernel_rfl) (l := []) trivial bursarref01_Sum.sh8_10 bursarref01_Sum.os8_10 bursarref01_Sum.l8_10 bursarref01_Sum.l8_10_ok, trivial⟩⟩⟩⟩ bursarref01_Sum.sh8 bursarref01_Sum.os8 (by kernel_rfl) bursarref01_Sum.t8 bursarref01_Sum.t8_ok, trivial⟩⟩) (fun _ => rfl) bursarref01_Sum.ok
end Go.Proofs.YtbjajidphaeogaaDoor
end
section
/- Sums of amounts: what the code and the document's answer compute. By this session. -/
set_option linter.unusedVariables false
set_option linter.unusedSimpArgs false
namespace Go.Proofs.YtbjajidphaeogaaDoor
open Go Go.Fw
def fits (n : Int) : Bool := decide (-9223372036854775808 ≤ n) && decide (n ≤ 9223372036854775807)
def Amounts (l : List Int) : Prop := ∀ a ∈ l, -9223372036854775808 ≤ a ∧ a ≤ 9223372036854775807
theorem Amounts.at {l : List Int} (h : Amounts l) {i : Nat} (hi : i < l.length) : -9223372036854775808 ≤ l.getD i 0 ∧ l.getD i 0 ≤ 9223372036854775807 := by
  rw [getD_at hi]
  exact h _ (List.getElem_mem hi)
def upTo (l : List Int) (i : Nat) : Int := (l.take i).sum
theorem upTo_succ {l : List Int} {i : Nat} (h : i < l.length) : upTo l (i + 1) = upTo l i + l.getD i 0 := by
  unfold upTo
  rw [take_up 0 h, List.sum_append]
  simp
theorem upTo_bound {l : List Int} (h : Amounts l) : ∀ i : Nat, i ≤ l.length → -9223372036854775808 * (i : Int) ≤ upTo l i ∧ upTo l i ≤ 9223372036854775807 * (i : Int)
  | 0, _ => by simp [upTo]
  | i + 1, hi => by
    have ih := upTo_bound h i (by omega)
    have := h.at (i := i) (by omega)
    rw [upTo_succ (by omega)]
    omega
theorem wrap_back {n : Int} (h0 : 0 ≤ n) (h1 : n < 18446744073709551616) : IntKind.wrap .i64 n = if n ≥ 9223372036854775808 then n - 18446744073709551616 else n := by
  rw [IntKind.wrap_i64]; split <;> omega
/-- the sum, and the error's number -/
def sumS (n : Int) : Int × Int := bif fits n then (n, 0) else (0, 2)
theorem money_Sum_is {l : List Int} (hs : l.length ≤ 4611686018427387904) (ha : Amounts l) : money_Sum.f l = some (sumS l.sum) := by
  have h := rounds_to (t := money_Sum.t4) (fun i => (upTo l i / 18446744073709551616, (upTo l i % 18446744073709551616, (l, ((l.length : Int), (i : Int)))))) l.length (fun i hi => by
    have h2 := wrap_up (n := i) (by omega)
    obtain ⟨hb1, hb2⟩ := upTo_bound ha i (by omega)
    obtain ⟨ha1, ha2⟩ := ha.at (i := i) (by omega)
    simp only [money_Sum.t4, Int.toNat_natCast, h2]
    rw [upTo_succ (by omega)]
    obtain ⟨a, hg⟩ : ∃ a, l.getD i 0 = a := ⟨_, rfl⟩
    obtain ⟨T, hT⟩ : ∃ T, upTo l i = T := ⟨_, rfl⟩
    simp only [hg, hT] at ha1 ha2 hb1 hb2 ⊢
    have d1 : (decide ((i : Int) < (l.length : Int))) = true := decide_eq_true (by omega)
    have d3 : decide ((0 : Int) ≤ (i : Int)) = true := decide_eq_true (by omega)
    have d4 : decide ((0 : Int) ≤ T % 18446744073709551616) = true := decide_eq_true (by omega)
    have d5 : decide ((0 : Int) ≤ IntKind.wrap .u64 a) = true := decide_eq_true (by rw [wrap_u64]; omega)
    have c5 : (T % 18446744073709551616 + IntKind.wrap .u64 a + 0) % 18446744073709551616 = (T + a) % 18446744073709551616 := by rw [wrap_u64]; omega
    have c4 : IntKind.wrap .i64 (T / 18446744073709551616 + IntKind.wrap .i64 (Int.fdiv a 9223372036854775808 + IntKind.wrap .i64 ((T % 18446744073709551616 + IntKind.wrap .u64 a + 0) / 18446744073709551616))) = (T + a) / 18446744073709551616 := by
      rw [wrap_u64, Int.fdiv_eq_ediv_of_nonneg a (by omega)]
      have w1 : IntKind.wrap .i64 ((T % 18446744073709551616 + a % 18446744073709551616 + 0) / 18446744073709551616) = (T % 18446744073709551616 + a % 18446744073709551616 + 0) / 18446744073709551616 := wrap_i64 (by omega) (by omega)
      rw [w1]
      have w2 : IntKind.wrap .i64 (a / 9223372036854775808 + (T % 18446744073709551616 + a % 18446744073709551616 + 0) / 18446744073709551616) = a / 9223372036854775808 + (T % 18446744073709551616 + a % 18446744073709551616 + 0) / 18446744073709551616 := wrap_i64 (by omega) (by omega)
      rw [w2, wrap_i64 (by omega) (by omega)]
      omega
    simp only [d1, d3, d4, d5, c4, c5, Bool.and_self, cond_true])
  have e : upTo l l.length = l.sum := by unfold upTo; rw [List.take_length]
  have hb := upTo_bound ha l.length (Nat.le_refl _)
  unfold money_Sum.f money_Sum.l4
  have h0 : ((0 : Int), ((0 : Int), (l, ((l.length : Int), (0 : Int))))) = (upTo l 0 / 18446744073709551616, (upTo l 0 % 18446744073709551616, (l, ((l.length : Int), ((0 : Nat) : Int))))) := rfl
  rw [h0, h, e, rounds_end (r := (l.sum / 18446744073709551616, l.sum % 18446744073709551616)) (by simp [money_Sum.t4])]
  rw [e] at hb
  simp only [Option.bind_some]
  unfold sumS
  generalize l.sum = s at hb ⊢
  have hw := wrap_back (n := s % 18446744073709551616) (by omega) (by omega)
  rw [hw, Int.fdiv_eq_ediv_of_nonneg _ (by omega)]
  by_cases hf : fits s = true
  · have hf' := hf
    simp only [fits, Bool.and_eq_true, decide_eq_true_eq] at hf'
    rw [hf]
    by_cases hn : s % 18446744073709551616 ≥ 9223372036854775808
    · rw [if_pos hn]
      have e : (s / 18446744073709551616 != (s % 18446744073709551616 - 18446744073709551616) / 9223372036854775808) = false := by simp; omega
      have e2 : s % 18446744073709551616 - 18446744073709551616 = s := by omega
      rw [e, e2]; rfl
    · rw [if_neg hn]
      have e : (s / 18446744073709551616 != s % 18446744073709551616 / 9223372036854775808) = false := by simp; omega
      have e2 : s % 18446744073709551616 = s := by omega
      rw [e, e2]; rfl
  · have hf' := hf
    simp only [fits, Bool.and_eq_true, decide_eq_true_eq] at hf'
    rw [Bool.eq_false_iff.mpr hf]
    by_cases hn : s % 18446744073709551616 ≥ 9223372036854775808
    · rw [if_pos hn]
      have e : (s / 18446744073709551616 != (s % 18446744073709551616 - 18446744073709551616) / 9223372036854775808) = true := by simp; omega
      rw [e]; rfl
    · rw [if_neg hn]
      have e : (s / 18446744073709551616 != s % 18446744073709551616 / 9223372036854775808) = true := by simp; omega
      rw [e]; rfl
/-! ### the document's answer: those above and those below, one by one -/
def ups (l : List Int) : List Int := l.filter fun a => decide (0 ≤ a)
def downs (l : List Int) : List Int := l.filter fun a => !decide (0 ≤ a)
theorem ups_len (l : List Int) : (ups l).length ≤ l.length := List.length_filter_le _ _
theorem downs_len (l : List Int) : (downs l).length ≤ l.length := List.length_filter_le _ _
theorem ups_sum : ∀ l : List Int, (ups l).sum + (downs l).sum = l.sum
  | [] => rfl
  | a :: l => by
    have ih := ups_sum l
    unfold ups downs at *
    by_cases h : 0 ≤ a
    · simp [h]; omega
    · simp [h]; omega
theorem split_is {l : List Int} (hs : l.length ≤ 17592186044415) : bursarref01_Sum.l4 (l, ((0 : Int), ([], []))) = some (ups l, downs l) := by
  have h := rounds_to (t := bursarref01_Sum.t4) (fun i => (l, ((i : Int), (ups (l.take i), downs (l.take i))))) l.length (fun i hi => by
    have h2 := wrap_up (n := i) (by omega)
    have hu := ups_len (l.take i)
    have hd := downs_len (l.take i)
    rw [List.length_take] at hu hd
    have d1 : (decide ((i : Int) < (l.length : Int))) = true := decide_eq_true (by omega)
    have d3 : decide ((0 : Int) ≤ (i : Int)) = true := decide_eq_true (by omega)
    simp only [bursarref01_Sum.t4, Int.toNat_natCast, h2, d1, d3, Bool.and_self, cond_true]
    rw [take_up 0 hi]
    obtain ⟨a, hg⟩ : ∃ a, l.getD i 0 = a := ⟨_, rfl⟩
    simp only [hg]
    unfold ups at hu ⊢
    unfold downs at hd ⊢
    rw [List.filter_append, List.filter_append]
    have b1 : Nat.ble ((List.length ((l.take i).filter fun a => decide (0 ≤ a)) + List.length [a]) * 8) 140737488355328 = true := Nat.ble_eq_true_of_le (by simp only [List.length_cons, List.length_nil]; omega)
    have b2 : Nat.ble (List.length ((l.take i).filter fun a => decide (0 ≤ a)) + List.length [a]) 140737488355328 = true := Nat.ble_eq_true_of_le (by simp only [List.length_cons, List.length_nil]; omega)
    have b3 : Nat.ble ((List.length ((l.take i).filter fun a => !decide (0 ≤ a)) + List.length [a]) * 8) 140737488355328 = true := Nat.ble_eq_true_of_le (by simp only [List.length_cons, List.length_nil]; omega)
    have b4 : Nat.ble (List.length ((l.take i).filter fun a => !decide (0 ≤ a)) + List.length [a]) 140737488355328 = true := Nat.ble_eq_true_of_le (by simp only [List.length_cons, List.length_nil]; omega)
    rw [b1, b2, b3, b4]
    by_cases h : 0 ≤ a <;> simp [h])
  unfold bursarref01_Sum.l4
  have h0 : (l, ((0 : Int), (([] : List Int), ([] : List Int)))) = (l, (((0 : Nat) : Int), (ups (l.take 0), downs (l.take 0)))) := rfl
  rw [h0, h, List.take_length, rounds_end (r := (ups l, downs l)) (by simp [bursarref01_Sum.t4])]
open bursarref01_Sum in
theorem sum_end {u d : List Int} {s : Int} {i k : Nat} (h1 : u.length ≤ i) (h2 : d.length ≤ k) : t8 (u, (d, (s, ((i : Int), (k : Int))))) = some (.inr (.inr s)) := by
  have d1 : decide ((i : Int) < (u.length : Int)) = false := decide_eq_false (by omega)
  have d2 : decide ((k : Int) < (d.length : Int)) = false := decide_eq_false (by omega)
  simp only [t8, l8_0, d1, d2, cond_false, Option.bind_some]
open bursarref01_Sum in
theorem sum_up {u d : List Int} {s : Int} {i k : Nat} (h1 : i < u.length) (hu : u.length ≤ 4611686018427387904) (h2 : d.length ≤ k ∨ s < 0) (ha : 0 ≤ u.getD i 0 ∧ u.getD i 0 ≤ 9223372036854775807) (hs : -9223372036854775808 ≤ s ∧ s ≤ 9223372036854775807) :
    t8 (u, (d, (s, ((i : Int), (k : Int))))) = some (bif decide (s + u.getD i 0 ≤ 9223372036854775807) then .inl (u, (d, (s + u.getD i 0, (((i + 1 : Nat) : Int), (k : Int))))) else .inr (.inl (0, false))) := by
  have w := wrap_up (n := i) (by omega)
  have d1 : decide ((i : Int) < (u.length : Int)) = true := decide_eq_true (by omega)
  have d2 : decide ((0 : Int) ≤ (i : Int)) = true := decide_eq_true (by omega)
  have e4 : l8_4 (u, (d, (s, ((i : Int), (k : Int))))) = some (u, (d, (s, ((i : Int), ((k : Int), true))))) := by
    unfold l8_4
    rcases h2 with h2 | h2
    · simp only [show decide (((k : Int)) ≥ (d.length : Int)) = true from decide_eq_true (by omega), cond_true]
    · simp only [d1, show decide (s < 0) = true from decide_eq_true h2]
      cases decide (((k : Int)) ≥ (d.length : Int)) <;> rfl
  have e5 : l8_5 (u, (d, (s, ((i : Int), ((k : Int), true))))) = some (u, (d, (s, (((i + 1 : Nat) : Int), ((k : Int), u.getD i 0))))) := by
    simp only [l8_5, Int.toNat_natCast, w, d1, d2, Bool.and_self, cond_true]
  simp only [t8, l8_0, d1, cond_true, Option.bind_some, e4, e5]
  generalize u.getD i 0 = a at ha
  have w1 : IntKind.wrap .i64 (9223372036854775807 - a) = 9223372036854775807 - a := wrap_i64 (by omega) (by omega)
  have nlt : decide (a < 0) = false := decide_eq_false (by omega)
  by_cases hx : s + a ≤ 9223372036854775807
  · have w2 : IntKind.wrap .i64 (s + a) = s + a := wrap_i64 (by omega) (by omega)
    have n2 : decide (s > 9223372036854775807 - a) = false := decide_eq_false (by omega)
    simp only [l8_10, w1, nlt, n2, decide_eq_true hx]
    cases decide (a > 0) <;> simp [w2]
  · have p1 : decide (a > 0) = true := decide_eq_true (by omega)
    have p2 : decide (s > 9223372036854775807 - a) = true := decide_eq_true (by omega)
    simp only [l8_10, w1, nlt, p1, p2, decide_eq_false hx]
    rfl
open bursarref01_Sum in
theorem sum_down {u d : List Int} {s : Int} {i k : Nat} (h1 : k < d.length) (hd : d.length ≤ 4611686018427387904) (h2 : ¬ (i < u.length ∧ s < 0)) (ha : -9223372036854775808 ≤ d.getD k 0 ∧ d.getD k 0 < 0) (hs : -9223372036854775808 ≤ s ∧ s ≤ 9223372036854775807) :
    t8 (u, (d, (s, ((i : Int), (k : Int))))) = some (bif decide (-9223372036854775808 ≤ s + d.getD k 0) then .inl (u, (d, (s + d.getD k 0, ((i : Int), ((k + 1 : Nat) : Int))))) else .inr (.inl (0, false))) := by
  have w := wrap_up (n := k) (by omega)
  have d1 : decide ((k : Int) < (d.length : Int)) = true := decide_eq_true (by omega)
  have d2 : decide ((0 : Int) ≤ (k : Int)) = true := decide_eq_true (by omega)
  have d3 : decide ((k : Int) ≥ (d.length : Int)) = false := decide_eq_false (by omega)
  have e0 : l8_0 (u, (d, (s, ((i : Int), (k : Int))))) = some (u, (d, (s, ((i : Int), ((k : Int), true))))) := by
    simp only [l8_0, d1]
    cases decide ((i : Int) < (u.length : Int)) <;> rfl
  have e4 : l8_4 (u, (d, (s, ((i : Int), (k : Int))))) = some (u, (d, (s, ((i : Int), ((k : Int), false))))) := by
    simp only [l8_4, d3]
    by_cases hi : i < u.length
    · rw [show decide (s < 0) = false from decide_eq_false fun h => h2 ⟨hi, h⟩]
      cases decide ((i : Int) < (u.length : Int)) <;> rfl
    · rw [show decide ((i : Int) < (u.length : Int)) = false from decide_eq_false (by omega)]; rfl
  have e5 : l8_5 (u, (d, (s, ((i : Int), ((k : Int), false))))) = some (u, (d, (s, ((i : Int), (((k + 1 : Nat) : Int), d.getD k 0))))) := by
    simp only [l8_5, Int.toNat_natCast, w, d1, d2, Bool.and_self, cond_true, cond_false]
  simp only [t8, e0, cond_true, Option.bind_some, e4, e5]
  generalize d.getD k 0 = a at ha
  have w1 : IntKind.wrap .i64 (-9223372036854775808 - a) = -9223372036854775808 - a := wrap_i64 (by omega) (by omega)
  have ngt : decide (a > 0) = false := decide_eq_false (by omega)
  have plt : decide (a < 0) = true := decide_eq_true (by omega)
  by_cases hx : -9223372036854775808 ≤ s + a
  · have w2 : IntKind.wrap .i64 (s + a) = s + a := wrap_i64 (by omega) (by omega)
    have n2 : decide (s < -9223372036854775808 - a) = false := decide_eq_false (by omega)
    simp only [l8_10, w1, ngt, plt, n2, decide_eq_true hx, cond_false, cond_true, Option.bind_some, w2]
  · have p2 : decide (s < -9223372036854775808 - a) = true := decide_eq_true (by omega)
    simp only [l8_10, w1, ngt, plt, p2, decide_eq_false hx, cond_false, cond_true, Option.bind_some]
theorem drop_sum {l : List Int} {i : Nat} (h : i < l.length) : (l.drop i).sum = l.getD i 0 + (l.drop (i + 1)).sum := by
  rw [List.drop_eq_getElem_cons h, List.sum_cons, getD_at h]
theorem nonneg_sum : ∀ {l : List Int}, (∀ a ∈ l, 0 ≤ a) → 0 ≤ l.sum
  | [], _ => by simp
  | a :: l, h => by
    have := nonneg_sum (l := l) fun b hb => h b (List.mem_cons_of_mem _ hb)
    have := h a List.mem_cons_self
    rw [List.sum_cons]; omega
theorem neg_sum : ∀ {l : List Int}, (∀ a ∈ l, a < 0) → l.sum ≤ 0
  | [], _ => by simp
  | a :: l, h => by
    have := neg_sum (l := l) fun b hb => h b (List.mem_cons_of_mem _ hb)
    have := h a List.mem_cons_self
    rw [List.sum_cons]; omega
theorem mix_is {u d : List Int} (hu : u.length ≤ 4611686018427387904) (hd : d.length ≤ 4611686018427387904) (hua : ∀ a ∈ u, 0 ≤ a ∧ a ≤ 9223372036854775807) (hda : ∀ a ∈ d, -9223372036854775808 ≤ a ∧ a < 0) (m : Nat) :
    ∀ (i k : Nat) (s : Int), u.length - i + (d.length - k) = m → -9223372036854775808 ≤ s ∧ s ≤ 9223372036854775807 →
      bursarref01_Sum.l8 (u, (d, (s, ((i : Int), (k : Int))))) = some (bif fits (s + (u.drop i).sum + (d.drop k).sum) then .inr (s + (u.drop i).sum + (d.drop k).sum) else .inl (0, false)) := by
  have un : ∀ i, 0 ≤ (u.drop i).sum := fun i => nonneg_sum fun a ha => (hua a (List.mem_of_mem_drop ha)).1
  have dn : ∀ k, (d.drop k).sum ≤ 0 := fun k => neg_sum fun a ha => (hda a (List.mem_of_mem_drop ha)).2
  induction m with
  | zero =>
    intro i k s hm hs
    unfold bursarref01_Sum.l8
    rw [rounds_end (sum_end (by omega) (by omega)), List.drop_eq_nil_of_le (by omega), List.drop_eq_nil_of_le (by omega)]
    simp [fits, hs.1, hs.2]
  | succ m ih =>
    intro i k s hm hs
    unfold bursarref01_Sum.l8 at ih ⊢
    by_cases hc : i < u.length ∧ (d.length ≤ k ∨ s < 0)
    · obtain ⟨h1, h2⟩ := hc
      have ha := hua (u.getD i 0) (by rw [getD_at h1]; exact List.getElem_mem h1)
      have h := sum_up h1 hu h2 ha hs
      rw [drop_sum h1]
      have un' := un (i + 1)
      generalize hg : u.getD i 0 = a at ha h ⊢
      by_cases hx : s + a ≤ 9223372036854775807
      · rw [decide_eq_true hx, cond_true] at h
        rw [rounds_next h, ih (i + 1) k (s + a) (by omega) (by omega)]
        have e : s + a + (u.drop (i + 1)).sum + (d.drop k).sum = s + (a + (u.drop (i + 1)).sum) + (d.drop k).sum := by omega
        rw [e]
      · rw [decide_eq_false hx, cond_false] at h
        have h3 : d.length ≤ k := by rcases h2 with h2 | h2 <;> omega
        have e : (d.drop k).sum = 0 := by rw [List.drop_eq_nil_of_le h3]; rfl
        have nf : fits (s + (a + (u.drop (i + 1)).sum) + (d.drop k).sum) = false := by
          rw [e]
          unfold fits
          rw [decide_eq_false (p := s + (a + (u.drop (i + 1)).sum) + 0 ≤ 9223372036854775807) (by omega), Bool.and_false]
        rw [rounds_end h, nf]; rfl
    · have h1 : k < d.length := by
        by_cases hi : i < u.length
        · by_cases hk : k < d.length
          · exact hk
          · exact absurd ⟨hi, .inl (by omega)⟩ hc
        · omega
      have h2 : ¬ (i < u.length ∧ s < 0) := fun h => hc ⟨h.1, .inr h.2⟩
      have ha := hda (d.getD k 0) (by rw [getD_at h1]; exact List.getElem_mem h1)
      have h := sum_down h1 hd h2 ha hs
      rw [drop_sum h1]
      have dn' := dn (k + 1)
      generalize hg : d.getD k 0 = a at ha h ⊢
      by_cases hx : -9223372036854775808 ≤ s + a
      · rw [decide_eq_true hx, cond_true] at h
        rw [rounds_next h, ih i (k + 1) (s + a) (by omega) (by omega)]
        have e : s + a + (u.drop i).sum + (d.drop (k + 1)).sum = s + (u.drop i).sum + (a + (d.drop (k + 1)).sum) := by omega
        rw [e]
      · rw [decide_eq_false hx, cond_false] at h
        have h3 : u.length ≤ i := by
          by_cases hi : i < u.length
          · have : ¬ s < 0 := fun hs => h2 ⟨hi, hs⟩
            omega
          · omega
        have e : (u.drop i).sum = 0 := by rw [List.drop_eq_nil_of_le h3]; rfl
        have nf : fits (s + (u.drop i).sum + (a + (d.drop (k + 1)).sum)) = false := by
          rw [e]
          unfold fits
          rw [decide_eq_false (p := -9223372036854775808 ≤ s + 0 + (a + (d.drop (k + 1)).sum)) (by omega), Bool.false_and]
        rw [rounds_end h, nf]; rfl
/-- the document's sum -/
def sumR (n : Int) : Int × Bool := bif fits n then (n, true) else (0, false)
theorem ref_Sum_is {l : List Int} (hs : l.length ≤ 17592186044415) (ha : Amounts l) : bursarref01_Sum.f l = some (sumR l.sum) := by
  have hu := ups_len l
  have hd := downs_len l
  have h := mix_is (u := ups l) (d := downs l) (by omega) (by omega) (fun a h => by
    have h' := List.mem_filter.1 h
    have := ha a h'.1
    have := h'.2
    simp only [decide_eq_true_eq] at this
    omega) (fun a h => by
    have h' := List.mem_filter.1 h
    have := ha a h'.1
    have := h'.2
    simp at this
    omega) _ 0 0 0 rfl (by omega)
  unfold bursarref01_Sum.f
  rw [split_is hs, Option.bind_some]
  rw [show ((0 : Nat) : Int) = 0 from rfl] at h
  rw [h, Option.bind_some, List.drop_zero, List.drop_zero, show 0 + (ups l).sum + (downs l).sum = l.sum by have := ups_sum l; omega]
  unfold sumR
  cases fits l.sum <;> rfl
end Go.Proofs.YtbjajidphaeogaaDoor
end
section
/- The Go function money.Add, as a Lean function, and that it is this one. Written by a program of this session. -/
set_option linter.unusedVariables false
set_option maxRecDepth 100000
namespace Go.Proofs.YtbjajidphaeogaaDoor
open Go Go.Fw
abbrev money_Add.As : Shs := (.cons (.x (.i .i64)) (.cons (.x (.i .i64)) .nil))
abbrev money_Add.m : Back := [(false, (.i .i64)), (false, (.i .i64))]
noncomputable abbrev money_Add.H : HK := hk P G0 E0 [money_Sum.row] noLoops 4
theorem money_Add.hok : HKOK P money_Add.H := hk_ok e0_ok (rows_ok (ws := [money_Sum.row]) ⟨money_Sum.row_ok, trivial⟩) (fun g n => noLoops_ok g n) 4
noncomputable def money_Add.f (a : (Int × Int)) : Option (Int × Int) := (((money_Sum.f (a.1 :: (a.2 :: [])))).bind fun (x2 : (Int × Int)) => (some x2))
theorem money_Add.ok : ∀ a : Vals money_Add.As.tys, fnK P money_Add.H (lp []) 22 money_Add.As money_Add.m a some = money_Add.f a := fun a => by kernel_rfl
noncomputable abbrev money_Add.row : Row := fnRow 22 money_Add.As money_Add.m money_Add.f
theorem money_Add.row_ok : RowOK P G0 money_Add.row := row_told money_Add.hok (lp_of (l := []) trivial) (fun _ => rfl) money_Add.ok
end Go.Proofs.YtbjajidphaeogaaDoor
end
section
/- The Go function money.Sub, as a Lean function, and that it is this one. Written by a program of this session. -/
set_option linter.unusedVariables false
set_option maxRecDepth 100000
namespace Go.Proofs.YtbjajidphaeogaaDoor
open Go Go.Fw
abbrev money_Sub.As : Shs := (.cons (.x (.i .i64)) (.cons (.x (.i .i64)) .nil))
abbrev money_Sub.m : Back := [(false, (.i .i64)), (false, (.i .i64))]
noncomputable abbrev money_Sub.H : HK := hk P G0 E0 [] noLoops 4
theorem money_Sub.hok : HKOK P money_Sub.H := hk_ok e0_ok (rows_ok (ws := []) trivial) (fun g n => noLoops_ok g n) 4
noncomputable def money_Sub.f (a : (Int × Int)) : Option (Int × Int) := (bif (!((decide ((a.1 < (0 : Int)))) == (decide ((a.2 < (0 : Int)))))) then (bif (!((decide (((IntKind.wrap .i64 (a.1 - a.2)) < (0 : Int)))) == (decide ((a.1 < (0 : Int)))))) then (some ((0 : Int), (2 : Int))) else (some ((IntKind.wrap .i64 (a.1 - a.2)), (0 : Int)))) else (some ((IntKind.wrap .i64 (a.1 - a.2)), (0 : Int))))
theorem money_Sub.ok : ∀ a : Vals money_Sub.As.tys, fnK P money_Sub.H (lp []) 23 money_Sub.As money_Sub.m a some = money_Sub.f a := fun a => by kernel_rfl
noncomputable abbrev money_Sub.row : Row := fnRow 23 money_Sub.As money_Sub.m money_Sub.f
theorem money_Sub.row_ok : RowOK P G0 money_Sub.row := row_told money_Sub.hok (lp_of (l := []) trivial) (fun _ => rfl) money_Sub.ok
end Go.Proofs.YtbjajidphaeogaaDoor
end
section
/- The Go function math/bits.Mul64, as a Lean function, and that it is this one. Written by a program of this session. -/
set_option linter.unusedVariables false
set_option maxRecDepth 100000
namespace Go.Proofs.YtbjajidphaeogaaDoor
open Go Go.Fw
abbrev bits_Mul64.As : Shs := (.cons (.x (.i .u64)) (.cons (.x (.i .u64)) .nil))
abbrev bits_Mul64.m : Back := [(false, (.i .u64)), (false, (.i .u64))]
noncomputable abbrev bits_Mul64.H : HK := hk P G0 E0 [] noLoops 4
theorem bits_Mul64.hok : HKOK P bits_Mul64.H := hk_ok e0_ok (rows_ok (ws := []) trivial) (fun g n => noLoops_ok g n) 4
noncomputable def bits_Mul64.f (a : (Int × Int)) : Option (Int × Int) := (some ((IntKind.wrap .u64 ((IntKind.wrap .u64 ((IntKind.wrap .u64 ((Int.fdiv a.1 (4294967296 : Int)) * (Int.fdiv a.2 (4294967296 : Int)))) + (Int.fdiv (IntKind.wrap .u64 ((IntKind.wrap .u64 ((Int.fdiv a.1 (4294967296 : Int)) * (bitsOp Go.BinOp.and Go.IntKind.u64 a.2 (4294967295 : Int)))) + (Int.fdiv (IntKind.wrap .u64 ((bitsOp Go.BinOp.and Go.IntKind.u64 a.1 (4294967295 : Int)) * (bitsOp Go.BinOp.and Go.IntKind.u64 a.2 (4294967295 : Int)))) (4294967296 : Int)))) (4294967296 : Int)))) + (Int.fdiv (IntKind.wrap .u64 ((bitsOp Go.BinOp.and Go.IntKind.u64 (IntKind.wrap .u64 ((IntKind.wrap .u64 ((Int.fdiv a.1 (4294967296 : Int)) * (bitsOp Go.BinOp.and Go.IntKind.u64 a.2 (4294967295 : Int)))) + (Int.fdiv (IntKind.wrap .u64 ((bitsOp Go.BinOp.and Go.IntKind.u64 a.1 (4294967295 : Int)) * (bitsOp Go.BinOp.and Go.IntKind.u64 a.2 (4294967295 : Int)))) (4294967296 : Int)))) (4294967295 : Int)) + (IntKind.wrap .u64 ((bitsOp Go.BinOp.and Go.IntKind.u64 a.1 (4294967295 : Int)) * (Int.fdiv a.2 (4294967296 : Int)))))) (4294967296 : Int)))), (IntKind.wrap .u64 (a.1 * a.2))))
theorem bits_Mul64.ok : ∀ a : Vals bits_Mul64.As.tys, fnK P bits_Mul64.H (lp []) 54 bits_Mul64.As bits_Mul64.m a some = bits_Mul64.f a := fun a => by kernel_rfl
noncomputable abbrev bits_Mul64.row : Row := fnRow 54 bits_Mul64.As bits_Mul64.m bits_Mul64.f
theorem bits_Mul64.row_ok : RowOK P G0 bits_Mul64.row := row_told bits_Mul64.hok (lp_of (l := []) trivial) (fun _ => rfl) bits_Mul64.ok
end Go.Proofs.YtbjajidphaeogaaDoor
end
section
/- The Go function money.size, as a Lean function, and that it is this one. Written by a program of this session. -/
set_option linter.unusedVariables false
set_option maxRecDepth 100000
namespace Go.Proofs.YtbjajidphaeogaaDoor
open Go Go.Fw
abbrev money_size.As : Shs := (.cons (.x (.i .i64)) .nil)
abbrev money_size.m : Back := [(false, (.i .u64))]
noncomputable abbrev money_size.H : HK := hk P G0 E0 [] noLoops 4
theorem money_size.hok : HKOK P money_size.H := hk_ok e0_ok (rows_ok (ws := []) trivial) (fun g n => noLoops_ok g n) 4
noncomputable def money_size.f (a : Int) : Option Int := (bif (decide ((a < (0 : Int)))) then (some (IntKind.wrap .u64 ((0 : Int) - (IntKind.wrap .u64 a)))) else (some (IntKind.wrap .u64 a)))
theorem money_size.ok : ∀ a : Vals money_size.As.tys, fnK P money_size.H (lp []) 55 money_size.As money_size.m a some = money_size.f a := fun a => by kernel_rfl
noncomputable abbrev money_size.row : Row := fnRow 55 money_size.As money_size.m money_size.f
theorem money_size.row_ok : RowOK P G0 money_size.row := row_told money_size.hok (lp_of (l := []) trivial) (fun _ => rfl) money_size.ok
end Go.Proofs.YtbjajidphaeogaaDoor
end
section
/- The Go function money.signed, as a Lean function, and that it is this one. Written by a program of this session. -/
set_option linter.unusedVariables false
set_option maxRecDepth 100000
namespace Go.Proofs.YtbjajidphaeogaaDoor
open Go Go.Fw
abbrev money_signed.As : Shs := (.cons (.x (.i .u64)) (.cons (.x .b) .nil))
abbrev money_signed.m : Back := [(false, (.i .i64)), (false, (.i .i64))]
noncomputable abbrev money_signed.H : HK := hk P G0 E0 [] noLoops 4
theorem money_signed.hok : HKOK P money_signed.H := hk_ok e0_ok (rows_ok (ws := []) trivial) (fun g n => noLoops_ok g n) 4
noncomputable def money_signed.f (a : (Int × Bool)) : Option (Int × Int) := (bif a.2 then (bif (decide ((a.1 ≤ (9223372036854775808 : Int)))) then (some ((IntKind.wrap .i64 (IntKind.wrap .u64 ((0 : Int) - a.1))), (0 : Int))) else (bif (!a.2) then (bif (decide ((a.1 ≤ (9223372036854775807 : Int)))) then (some ((IntKind.wrap .i64 a.1), (0 : Int))) else (some ((0 : Int), (2 : Int)))) else (some ((0 : Int), (2 : Int))))) else (bif (!a.2) then (bif (decide ((a.1 ≤ (9223372036854775807 : Int)))) then (some ((IntKind.wrap .i64 a.1), (0 : Int))) else (some ((0 : Int), (2 : Int)))) else (some ((0 : Int), (2 : Int)))))
theorem money_signed.ok : ∀ a : Vals money_signed.As.tys, fnK P money_signed.H (lp []) 56 money_signed.As money_signed.m a some = money_signed.f a := fun a => by kernel_rfl
noncomputable abbrev money_signed.row : Row := fnRow 56 money_signed.As money_signed.m money_signed.f
theorem money_signed.row_ok : RowOK P G0 money_signed.row := row_told money_signed.hok (lp_of (l := []) trivial) (fun _ => rfl) money_signed.ok
end Go.Proofs.YtbjajidphaeogaaDoor
end
section
/- The Go function money.Times, as a Lean function, and that it is this one. Written by a program of this session. -/
set_option linter.unusedVariables false
set_option maxRecDepth 100000
namespace Go.Proofs.YtbjajidphaeogaaDoor
open Go Go.Fw
abbrev money_Times.As : Shs := (.cons (.x (.i .i64)) (.cons (.x (.i .i64)) .nil))
abbrev money_Times.m : Back := [(false, (.i .i64)), (false, (.i .i64))]
noncomputable abbrev money_Times.H : HK := hk P G0 E0 [bits_Mul64.row, money_size.row, money_signed.row] noLoops 4
theorem money_Times.hok : HKOK P money_Times.H := hk_ok e0_ok (rows_ok (ws := [bits_Mul64.row, money_size.row, money_signed.row]) ⟨bits_Mul64.row_ok, ⟨money_size.row_ok, ⟨money_signed.row_ok, trivial⟩⟩⟩) (fun g n => noLoops_ok g n) 4
noncomputable def money_Times.f (a : (Int × Int)) : Option (Int × Int) := (((money_size.f a.1)).bind fun (x2 : Int) => (((money_size.f a.2)).bind fun (x3 : Int) => (bif ((IntKind.wrap .u64 ((IntKind.wrap .u64 ((IntKind.wrap .u64 ((Int.fdiv x2 (4294967296 : Int)) * (Int.fdiv x3 (4294967296 : Int)))) + (Int.fdiv (IntKind.wrap .u64 ((IntKind.wrap .u64 ((Int.fdiv x2 (4294967296 : Int)) * (bitsOp Go.BinOp.and Go.IntKind.u64 x3 (4294967295 : Int)))) + (Int.fdiv (IntKind.wrap .u64 ((bitsOp Go.BinOp.and Go.IntKind.u64 x2 (4294967295 : Int)) * (bitsOp Go.BinOp.and Go.IntKind.u64 x3 (4294967295 : Int)))) (4294967296 : Int)))) (4294967296 : Int)))) + (Int.fdiv (IntKind.wrap .u64 ((bitsOp Go.BinOp.and Go.IntKind.u64 (IntKind.wrap .u64 ((IntKind.wrap .u64 ((Int.fdiv x2 (4294967296 : Int)) * (bitsOp Go.BinOp.and Go.IntKind.u64 x3 (4294967295 : Int)))) + (Int.fdiv (IntKind.wrap .u64 ((bitsOp Go.BinOp.and Go.IntKind.u64 x2 (4294967295 : Int)) * (bitsOp Go.BinOp.and Go.IntKind.u64 x3 (4294967295 : Int)))) (4294967296 : Int)))) (4294967295 : Int)) + (IntKind.wrap .u64 ((bitsOp Go.BinOp.and Go.IntKind.u64 x2 (4294967295 : Int)) * (Int.fdiv x3 (4294967296 : Int)))))) (4294967296 : Int)))) != (0 : Int)) then (some ((0 : Int), (2 : Int))) else (((money_signed.f ((IntKind.wrap .u64 (x2 * x3)), (!((decide ((a.1 < (0 : Int)))) == (decide ((a.2 < (0 : Int))))))))).bind fun (x4 : (Int × Int)) => (some x4)))))
theorem money_Times.ok : ∀ a : Vals money_Times.As.tys, fnK P money_Times.H (lp []) 24 money_Times.As money_Times.m a some = money_Times.f a := fun a => by kernel_rfl
noncomputable abbrev money_Times.row : Row := fnRow 24 money_Times.As money_Times.m money_Times.f
theorem money_Times.row_ok : RowOK P G0 money_Times.row := row_told money_Times.hok (lp_of (l := []) trivial) (fun _ => rfl) money_Times.ok
end Go.Proofs.YtbjajidphaeogaaDoor
end
section
/- The Go function bursarref01.Sub, as a Lean function, and that it is this one. Written by a program of this session. -/
set_option linter.unusedVariables false
set_option maxRecDepth 100000
namespace Go.Proofs.YtbjajidphaeogaaDoor
open Go Go.Fw
abbrev bursarref01_Sub.As : Shs := (.cons (.x (.i .i64)) (.cons (.x (.i .i64)) .nil))
abbrev bursarref01_Sub.m : Back := [(false, (.i .i64)), (false, .b)]
noncomputable abbrev bursarref01_Sub.H : HK := hk P G0 E0 [bursarref01_Sum.row] noLoops 4
theorem bursarref01_Sub.hok : HKOK P bursarref01_Sub.H := hk_ok e0_ok (rows_ok (ws := [bursarref01_Sum.row]) ⟨bursarref01_Sum.row_ok, trivial⟩) (fun g n => noLoops_ok g n) 4
noncomputable def bursarref01_Sub.f (a : (Int × Int)) : Option (Int × Bool) := (bif (a.2 == (-9223372036854775808 : Int)) then (bif (decide ((a.1 ≥ (0 : Int)))) then (some ((0 : Int), false)) else (some ((IntKind.wrap .i64 ((IntKind.wrap .i64 (a.1 + (9223372036854775807 : Int))) + (1 : Int))), true))) else (((bursarref01_Sum.f (a.1 :: ((IntKind.wrap .i64 ((0 : Int) - a.2)) :: [])))).bind fun (x2 : (Int × Bool)) => (some x2)))
theorem bursarref01_Sub.ok : ∀ a : Vals bursarref01_Sub.As.tys, fnK P bursarref01_Sub.H (lp []) 25 bursarref01_Sub.As bursarref01_Sub.m a some = bursarref01_Sub.f a := fun a => by kernel_rfl
noncomputable abbrev bursarref01_Sub.row : Row := fnRow 25 bursarref01_Sub.As bursarref01_Sub.m bursarref01_Sub.f
theorem bursarref01_Sub.row_ok : RowOK P G0 bursarref01_Sub.row := row_told bursarref01_Sub.hok (lp_of (l := []) trivial) (fun _ => rfl) bursarref01_Sub.ok
end Go.Proofs.YtbjajidphaeogaaDoor
end
section
/- The Go function bursarref01.Times, as a Lean function, and that it is this one. Written by a program of this session. -/
set_option linter.unusedVariables false
set_option maxRecDepth 100000
namespace Go.Proofs.YtbjajidphaeogaaDoor
open Go Go.Fw
abbrev bursarref01_Times.As : Shs := (.cons (.x (.i .i64)) (.cons (.x (.i .i64)) .nil))
abbrev bursarref01_Times.m : Back := [(false, (.i .i64)), (false, .b)]
noncomputable abbrev bursarref01_Times.H : HK := hk P G0 E0 [] noLoops 4
theorem bursarref01_Times.hok : HKOK P bursarref01_Times.H := hk_ok e0_ok (rows_ok (ws := []) trivial) (fun g n => noLoops_ok g n) 4
noncomputable def bursarref01_Times.f (a : (Int × Int)) : Option (Int × Bool) := (bif (a.1 == (0 : Int)) then (some ((0 : Int), true)) else (bif (a.2 == (0 : Int)) then (some ((0 : Int), true)) else (bif (a.1 == (-1 : Int)) then (some ((IntKind.wrap .i64 (a.1 * a.2)), (a.2 != (-9223372036854775808 : Int)))) else (bif (a.2 == (-1 : Int)) then (some ((IntKind.wrap .i64 (a.1 * a.2)), (a.1 != (-9223372036854775808 : Int)))) else (bif (decide ((a.1 = (0 : Int)))) then none else (some ((IntKind.wrap .i64 (a.1 * a.2)), ((IntKind.wrap .i64 (Int.tdiv (IntKind.wrap .i64 (a.1 * a.2)) a.1)) == a.2))))))))
theorem bursarref01_Times.ok : ∀ a : Vals bursarref01_Times.As.tys, fnK P bursarref01_Times.H (lp []) 26 bursarref01_Times.As bursarref01_Times.m a some = bursarref01_Times.f a := fun a => by kernel_rfl
noncomputable abbrev bursarref01_Times.row : Row := fnRow 26 bursarref01_Times.As bursarref01_Times.m bursarref01_Times.f
theorem bursarref01_Times.row_ok : RowOK P G0 bursarref01_Times.row := row_told bursarref01_Times.hok (lp_of (l := []) trivial) (fun _ => rfl) bursarref01_Times.ok
end Go.Proofs.YtbjajidphaeogaaDoor
end
section
/- The Go function bursarlaw01.told, as a Lean function, and that it is this one. Written by a program of this session. -/
set_option linter.unusedVariables false
set_option maxRecDepth 100000
namespace Go.Proofs.YtbjajidphaeogaaDoor
open Go Go.Fw
abbrev bursarlaw01_told.As : Shs := (.cons (.x (.i .i64)) (.cons (.x (.i .i64)) (.cons (.x (.i .i64)) (.cons (.x .b) .nil))))
abbrev bursarlaw01_told.m : Back := [(false, .b)]
noncomputable abbrev bursarlaw01_told.H : HK := hk P G0 E0 [] noLoops 4
theorem bursarlaw01_told.hok : HKOK P bursarlaw01_told.H := hk_ok e0_ok (rows_ok (ws := []) trivial) (fun g n => noLoops_ok g n) 4
noncomputable def bursarlaw01_told.f (a : (Int × (Int × (Int × Bool)))) : Option Bool := (bif (!a.2.2.2) then (bif (a.1 == (0 : Int)) then (some (a.2.1 == (2 : Int))) else (some false)) else (bif (a.1 == a.2.2.1) then (some (a.2.1 == (0 : Int))) else (some false)))
theorem bursarlaw01_told.ok : ∀ a : Vals bursarlaw01_told.As.tys, fnK P bursarlaw01_told.H (lp []) 18 bursarlaw01_told.As bursarlaw01_told.m a some = bursarlaw01_told.f a := fun a => by kernel_rfl
noncomputable abbrev bursarlaw01_told.row : Row := fnRow 18 bursarlaw01_told.As bursarlaw01_told.m bursarlaw01_told.f
theorem bursarlaw01_told.row_ok : RowOK P G0 bursarlaw01_told.row := row_told bursarlaw01_told.hok (lp_of (l := []) trivial) (fun _ => rfl) bursarlaw01_told.ok
end Go.Proofs.YtbjajidphaeogaaDoor
end
section
/- The Go function bursarlaw01.few, as a Lean function, and that it is this one. Written by a program of this session. -/
set_option linter.unusedVariables false
set_option maxRecDepth 100000
namespace Go.Proofs.YtbjajidphaeogaaDoor
open Go Go.Fw
abbrev bursarlaw01_few.As : Shs := (.cons (.x (.l (.i .i64))) .nil)
abbrev bursarlaw01_few.m : Back := [(false, (.l (.i .i64)))]
noncomputable abbrev bursarlaw01_few.H : HK := hk P G0 E0 [] noLoops 4
theorem bursarlaw01_few.hok : HKOK P bursarlaw01_few.H := hk_ok e0_ok (rows_ok (ws := []) trivial) (fun g n => noLoops_ok g n) 4
noncomputable def bursarlaw01_few.f (a : (List Int)) : Option (List Int) := (bif (decide ((((List.length a) : Int) > (300 : Int)))) then (bif (true && (decide (((300 : Int) ≤ ((List.length a) : Int))))) then (some (List.take 300 (List.drop 0 a))) else none) else (some a))
theorem bursarlaw01_few.ok : ∀ a : Vals bursarlaw01_few.As.tys, fnK P bursarlaw01_few.H (lp []) 15 bursarlaw01_few.As bursarlaw01_few.m a some = bursarlaw01_few.f a := fun a => by kernel_rfl
noncomputable abbrev bursarlaw01_few.row : Row := fnRow 15 bursarlaw01_few.As bursarlaw01_few.m bursarlaw01_few.f
theorem bursarlaw01_few.row_ok : RowOK P G0 bursarlaw01_few.row := row_told bursarlaw01_few.hok (lp_of (l := []) trivial) (fun _ => rfl) bursarlaw01_few.ok
end Go.Proofs.YtbjajidphaeogaaDoor
end
section
/- The Go function bursarlaw01.same, as a Lean function, and that it is this one. Written by a program of this session. -/
set_option linter.unusedVariables false
set_option maxRecDepth 100000
namespace Go.Proofs.YtbjajidphaeogaaDoor
open Go Go.Fw
abbrev bursarlaw01_same.As : Shs := (.cons (.x (.l (.i .i64))) (.cons (.x (.l (.i .i64))) .nil))
abbrev bursarlaw01_same.m : Back := [(false, .b)]
noncomputable abbrev bursarlaw01_same.H : HK := hk P G0 E0 [] noLoops 4
theorem bursarlaw01_same.hok : HKOK P bursarlaw01_same.H := hk_ok e0_ok (rows_ok (ws := []) trivial) (fun g n => noLoops_ok g n) 4
abbrev bursarlaw01_same.sh6 : SSh := ⟨[(0, (.x (.l (.i .i64)))), (1, (.x (.l (.i .i64)))), (5, (.x (.i .i64)))], []⟩
abbrev bursarlaw01_same.os6 : PEnds := [(.ret, ⟨[(4, (.x .b))], []⟩), ((.exit 0), ⟨[], []⟩)]
noncomputable def bursarlaw01_same.t6 (s : ((List Int) × ((List Int) × Int))) : Option (((List Int) × ((List Int) × Int)) ⊕ (Bool ⊕ Unit)) := (bif (decide ((s.2.2 < ((List.length s.1) : Int)))) then (bif ((decide (((0 : Int) ≤ s.2.2))) && (decide ((s.2.2 < ((List.length s.1) : Int))))) then (bif ((decide (((0 : Int) ≤ s.2.2))) && (decide ((s.2.2 < ((List.length s.2.1) : Int))))) then (bif ((List.getD s.1 (Int.toNat s.2.2) (0 : Int)) != (List.getD s.2.1 (Int.toNat s.2.2) (0 : Int))) then (some (.inr (.inl false))) else (some (.inl (s.1, (s.2.1, (IntKind.wrap .i64 (s.2.2 + (1 : Int)))))))) else none) else none) else (some (.inr (.inr ()))))
theorem bursarlaw01_same.t6_ok : ∀ s : Vals bursarlaw01_same.sh6.tys, turnK P bursarlaw01_same.H (lp []) (bodyAt (codeOf P 21) 6) 0 bursarlaw01_same.sh6 bursarlaw01_same.os6 s some = bursarlaw01_same.t6 s := fun s => by kernel_rfl
noncomputable def bursarlaw01_same.l6 : ((List Int) × ((List Int) × Int)) → Option (Bool ⊕ Unit) := rounds bursarlaw01_same.t6
noncomputable def bursarlaw01_same.f (a : ((List Int) × (List Int))) : Option Bool := (bif (((List.length a.1) : Int) != ((List.length a.2) : Int)) then (some false) else (((bursarlaw01_same.l6 (a.1, (a.2, (0 : Int))))).bind fun (x2 : (Bool ⊕ PUnit)) => (match x2 with | .inl x3 => (some x3) | .inr x3 => (some true))))
theorem bursarlaw01_same.ok : ∀ a : Vals bursarlaw01_same.As.tys, fnK P bursarlaw01_same.H (lp [(6, NodeT.summ ⟨bursarlaw01_same.sh6, bursarlaw01_same.os6, bursarlaw01_same.l6⟩ 0)]) 21 bursarlaw01_same.As bursarlaw01_same.m a some = bursarlaw01_same.f a := fun a => by kernel_rfl
noncomputable abbrev bursarlaw01_same.row : Row := fnRow 21 bursarlaw01_same.As bursarlaw01_same.m bursarlaw01_same.f
theorem bursarlaw01_same.row_ok : RowOK P G0 bursarlaw01_same.row := row_told bursarlaw01_same.hok (lp_of (l := [(6, NodeT.summ ⟨bursarlaw01_same.sh6, bursarlaw01_same.os6, bursarlaw01_same.l6⟩ 0)]) ⟨loop_sum bursarlaw01_same.hok (by kernel_rfl) (by kernel_rfl) (l := []) trivial bursarlaw01_same.sh6 bursarlaw01_same.os6 (by kernel_rfl) bursarlaw01_same.t6 bursarlaw01_same.t6_ok, trivial⟩) (fun _ => rfl) bursarlaw01_same.ok
end Go.Proofs.YtbjajidphaeogaaDoor
end
section
/- Sum, difference and product of amounts: what the code and the document's answer compute. By this session. -/
set_option linter.unusedVariables false
set_option linter.unusedSimpArgs false
namespace Go.Proofs.YtbjajidphaeogaaDoor
open Go Go.Fw
theorem bounds_u8 {n : Int} (h : (Lit.int .u8 n).wf = true) : 0 ≤ n ∧ n ≤ 255 := by
  simp [Lit.wf, IntKind.min, IntKind.max, IntKind.signed, IntKind.bits] at h
  omega
theorem bounds_u16 {n : Int} (h : (Lit.int .u16 n).wf = true) : 0 ≤ n ∧ n ≤ 65535 := by
  simp [Lit.wf, IntKind.min, IntKind.max, IntKind.signed, IntKind.bits] at h
  omega
/-- an amount -/
def Am (a : Int) : Prop := -9223372036854775808 ≤ a ∧ a ≤ 9223372036854775807
theorem fits_iff {n : Int} : fits n = true ↔ Am n := by simp [fits, Am]
theorem fits_of {n : Int} (h : Am n) : fits n = true := fits_iff.2 h
theorem fits_not {n : Int} (h : ¬ Am n) : fits n = false := by
  cases hf : fits n with
  | false => rfl
  | true => exact absurd (fits_iff.1 hf) h
theorem sumS_of {n : Int} (h : Am n) : sumS n = (n, 0) := by simp [sumS, fits_of h]
theorem sumS_not {n : Int} (h : ¬ Am n) : sumS n = (0, 2) := by simp [sumS, fits_not h]
theorem am_cons {a : Int} {l : List Int} (h : Am a) (hl : Amounts l) : Amounts (a :: l) := by
  intro b hb
  rcases List.mem_cons.1 hb with rfl | hb
  · exact h
  · exact hl b hb
theorem am_nil : Amounts [] := fun a h => by cases h
theorem money_Add_is {a b : Int} (ha : Am a) (hb : Am b) : money_Add.f (a, b) = some (sumS (a + b)) := by
  unfold money_Add.f
  rw [money_Sum_is (by simp) (am_cons ha (am_cons hb am_nil))]
  simp
theorem money_Sub_is {a b : Int} (ha : Am a) (hb : Am b) : money_Sub.f (a, b) = some (sumS (a - b)) := by
  obtain ⟨h1, h2⟩ := ha
  obtain ⟨h3, h4⟩ := hb
  unfold money_Sub.f
  simp only [IntKind.wrap_i64]
  by_cases hf : Am (a - b)
  · rw [sumS_of hf]
    obtain ⟨h5, h6⟩ := hf
    have e : (a - b + 9223372036854775808) % 18446744073709551616 - 9223372036854775808 = a - b := by omega
    rw [e]
    by_cases c1 : a < 0 <;> by_cases c2 : b < 0 <;> by_cases c3 : a - b < 0 <;> simp [c1, c2, c3] <;> omega
  · rw [sumS_not hf]
    have hf' : a - b < -9223372036854775808 ∨ 9223372036854775807 < a - b := by unfold Am at hf; omega
    obtain ⟨m, hm⟩ : ∃ m, (a - b + 9223372036854775808) % 18446744073709551616 - 9223372036854775808 = m := ⟨_, rfl⟩
    rw [hm]
    have c1 : (decide (a < 0) == decide (b < 0)) = false := by
      by_cases c1 : a < 0 <;> by_cases c2 : b < 0 <;> simp [c1, c2] <;> omega
    have c2 : (decide (m < 0) == decide (a < 0)) = false := by
      by_cases c1 : a < 0 <;> by_cases c2 : m < 0 <;> simp [c1, c2] <;> omega
    simp [c1, c2]
/-- is an answer the document's? -/
def Told (r : Int × Bool) (n : Int) : Prop := r.2 = fits n ∧ (fits n = true → r.1 = n)
theorem told_sumR (n : Int) : Told (sumR n) n := by
  unfold Told sumR
  cases fits n <;> simp
theorem told_is {r : Int × Bool} {n : Int} (h : Told r n) : bursarlaw01_told.f ((sumS n).1, ((sumS n).2, r)) = some true := by
  obtain ⟨h1, h2⟩ := h
  unfold bursarlaw01_told.f sumS
  cases hf : fits n with
  | false => simp [h1, hf]
  | true => simp [h1, hf, h2 hf]
theorem ref_Sub_is {a b : Int} (ha : Am a) (hb : Am b) : ∃ r, bursarref01_Sub.f (a, b) = some r ∧ Told r (a - b) := by
  obtain ⟨h1, h2⟩ := ha
  obtain ⟨h3, h4⟩ := hb
  unfold bursarref01_Sub.f
  by_cases hm : b = -9223372036854775808
  · subst hm
    by_cases c : a ≥ 0
    · refine ⟨(0, false), by simp [c], ?_⟩
      have : ¬ Am (a - -9223372036854775808) := by unfold Am; omega
      exact ⟨(fits_not this).symm, fun h => by rw [fits_not this] at h; cases h⟩
    · have hf : Am (a - -9223372036854775808) := by unfold Am; omega
      refine ⟨(a + 9223372036854775808, true), ?_, (fits_of hf).symm, fun _ => by omega⟩
      simp only [c, decide_false, cond_false, beq_self_eq_true, cond_true]
      rw [show IntKind.wrap .i64 (a + 9223372036854775807) = a + 9223372036854775807 from wrap_i64 (by omega) (by omega), wrap_i64 (by omega) (by omega)]
      congr 2; omega
  · refine ⟨sumR (a - b), ?_, told_sumR _⟩
    have e : (b == -9223372036854775808) = false := by simpa using hm
    simp only [e, cond_false]
    rw [wrap_i64 (by omega) (by omega), ref_Sum_is (by simp) (am_cons ⟨h1, h2⟩ (am_cons (by unfold Am; omega) am_nil))]
    simp only [Option.bind_some, List.sum_cons, List.sum_nil]
    congr 2; omega
/-! products -/
theorem and32 {a : Int} (h0 : 0 ≤ a) (h1 : a < 18446744073709551616) : bitsOp .and .u64 a 4294967295 = a % 4294967296 := by
  obtain ⟨n, rfl⟩ : ∃ n : Nat, a = n := ⟨a.toNat, by omega⟩
  have hn : n < 2 ^ 64 := by omega
  have e : (BitVec.ofInt 64 (n : Int) &&& BitVec.ofInt 64 4294967295).toNat = n % 4294967296 := by
    rw [BitVec.toNat_and]
    have e1 : (BitVec.ofInt 64 (n : Int)).toNat = n := by
      rw [BitVec.toNat_ofInt]; simp; omega
    have e2 : (BitVec.ofInt 64 (4294967295 : Int)).toNat = 2 ^ 32 - 1 := by decide
    rw [e1, e2, Nat.and_two_pow_sub_one_eq_mod]
  show IntKind.wrap .u64 (((BitVec.ofInt 64 (n : Int) &&& BitVec.ofInt 64 4294967295).toNat : Nat) : Int) = _
  rw [e, wrap_u64]
  omega
theorem high_lin {A B C D : Int} (hA : 0 ≤ A ∧ A ≤ 18446744065119617025) (hB : 0 ≤ B ∧ B ≤ 18446744065119617025) (hC : 0 ≤ C ∧ C ≤ 18446744065119617025) (hD : 0 ≤ D ∧ D ≤ 18446744065119617025) :
    IntKind.wrap .u64 (IntKind.wrap .u64 (IntKind.wrap .u64 D + (IntKind.wrap .u64 (IntKind.wrap .u64 B + IntKind.wrap .u64 A / 4294967296)) / 4294967296) +
      (IntKind.wrap .u64 ((IntKind.wrap .u64 (IntKind.wrap .u64 B + IntKind.wrap .u64 A / 4294967296)) % 4294967296 + IntKind.wrap .u64 C)) / 4294967296) = (D * 18446744073709551616 + (B + C) * 4294967296 + A) / 18446744073709551616 := by
  simp only [wrap_u64]
  omega
theorem mul_bound {x y b : Int} (h0 : 0 ≤ x) (h1 : x ≤ b) (h2 : 0 ≤ y) (h3 : y ≤ b) : 0 ≤ x * y ∧ x * y ≤ b * b :=
  ⟨Int.mul_nonneg h0 h2, Int.mul_le_mul h1 h3 h2 (by omega)⟩
theorem mul64_is {x y : Int} (hx : 0 ≤ x ∧ x < 18446744073709551616) (hy : 0 ≤ y ∧ y < 18446744073709551616) : bits_Mul64.f (x, y) = some (x * y / 18446744073709551616, x * y % 18446744073709551616) := by
  unfold bits_Mul64.f
  have s1 : IntKind.wrap .u64 (IntKind.wrap .u64 (Int.fdiv x 4294967296 * bitsOp .and .u64 y 4294967295) + Int.fdiv (IntKind.wrap .u64 (bitsOp .and .u64 x 4294967295 * bitsOp .and .u64 y 4294967295)) 4294967296) = IntKind.wrap .u64 (IntKind.wrap .u64 ((x / 4294967296) * (y % 4294967296)) + IntKind.wrap .u64 ((x % 4294967296) * (y % 4294967296)) / 4294967296) := by
    rw [and32 hx.1 hx.2, and32 hy.1 hy.2, Int.fdiv_eq_ediv_of_nonneg _ (by omega), Int.fdiv_eq_ediv_of_nonneg _ (by omega)]
  simp only [s1]
  have r1 : ∀ n : Int, 0 ≤ IntKind.wrap .u64 n ∧ IntKind.wrap .u64 n < 18446744073709551616 := fun n => by rw [wrap_u64]; omega
  rw [and32 hx.1 hx.2, and32 (r1 _).1 (r1 _).2]
  simp only [Int.fdiv_eq_ediv_of_nonneg _ (show (0 : Int) ≤ 4294967296 by omega)]
  have b1 := mul_bound (x := x % 4294967296) (y := y % 4294967296) (b := 4294967295) (by omega) (by omega) (by omega) (by omega)
  have b2 := mul_bound (x := x / 4294967296) (y := y % 4294967296) (b := 4294967295) (by omega) (by omega) (by omega) (by omega)
  have b3 := mul_bound (x := x % 4294967296) (y := y / 4294967296) (b := 4294967295) (by omega) (by omega) (by omega) (by omega)
  have b4 := mul_bound (x := x / 4294967296) (y := y / 4294967296) (b := 4294967295) (by omega) (by omega) (by omega) (by omega)
  rw [high_lin ⟨b1.1, by omega⟩ ⟨b2.1, by omega⟩ ⟨b3.1, by omega⟩ ⟨b4.1, by omega⟩, wrap_u64]
  congr 3
  have ex : x = x / 4294967296 * 4294967296 + x % 4294967296 := by omega
  have ey : y = y / 4294967296 * 4294967296 + y % 4294967296 := by omega
  obtain ⟨p, hp⟩ : ∃ p, x / 4294967296 = p := ⟨_, rfl⟩
  obtain ⟨q, hq⟩ : ∃ q, x % 4294967296 = q := ⟨_, rfl⟩
  obtain ⟨r, hr⟩ : ∃ r, y / 4294967296 = r := ⟨_, rfl⟩
  obtain ⟨t, ht⟩ : ∃ t, y % 4294967296 = t := ⟨_, rfl⟩
  rw [hp, hq] at ex
  rw [hr, ht] at ey
  rw [hp, hq, hr, ht, ex, ey]
  grind
theorem size_is {a : Int} (ha : Am a) : money_size.f a = some (a.natAbs : Int) := by
  obtain ⟨h1, h2⟩ := ha
  unfold money_size.f
  simp only [wrap_u64]
  by_cases c : a < 0
  · simp only [c, decide_true, cond_true]; congr 1; omega
  · simp only [c, decide_false, cond_false]; congr 1; omega
theorem Times_is {a n : Int} (ha : Am a) (hn : Am n) : money_Times.f (a, n) = some (sumS (a * n)) := by
  obtain ⟨h1, h2⟩ := ha
  obtain ⟨h3, h4⟩ := hn
  have hm := mul64_is (x := (a.natAbs : Int)) (y := (n.natAbs : Int)) (by omega) (by omega)
  unfold bits_Mul64.f at hm
  simp only [Option.some.injEq, Prod.mk.injEq] at hm
  unfold money_Times.f
  simp only [size_is ⟨h1, h2⟩, size_is ⟨h3, h4⟩, Option.bind_some, hm.1, hm.2]
  have habs : (a.natAbs : Int) * (n.natAbs : Int) = ((a * n).natAbs : Int) := by rw [Int.natAbs_mul]; simp
  rw [habs]
  obtain ⟨p, hp⟩ : ∃ p, a * n = p := ⟨_, rfl⟩
  have sg : (0 ≤ a ∧ 0 ≤ n → 0 ≤ p) ∧ (a ≤ 0 ∧ n ≤ 0 → 0 ≤ p) ∧ (0 ≤ a ∧ n ≤ 0 → p ≤ 0) ∧ (a ≤ 0 ∧ 0 ≤ n → p ≤ 0) := by
    rw [← hp]
    exact ⟨fun h => Int.mul_nonneg h.1 h.2, fun h => Int.mul_nonneg_of_nonpos_of_nonpos h.1 h.2, fun h => Int.mul_nonpos_of_nonneg_of_nonpos h.1 h.2, fun h => Int.mul_nonpos_of_nonpos_of_nonneg h.1 h.2⟩
  rw [hp]
  by_cases hb : (p.natAbs : Int) < 18446744073709551616
  · have e1 : ((p.natAbs : Int) / 18446744073709551616 != 0) = false := by
      have : (p.natAbs : Int) / 18446744073709551616 = 0 := by omega
      simp [this]
    have e2 : (p.natAbs : Int) % 18446744073709551616 = (p.natAbs : Int) := by omega
    simp only [e1, cond_false, e2]
    unfold money_signed.f
    have key : ∀ b : Bool, b = (!(decide (a < 0) == decide (n < 0))) → (b = true → p ≤ 0) ∧ (b = false → 0 ≤ p) := by
      intro b hb
      by_cases c1 : a < 0 <;> by_cases c2 : n < 0 <;> simp [c1, c2] at hb <;> subst hb <;> simp <;> omega
    obtain ⟨b, hb'⟩ : ∃ b, (!(decide (a < 0) == decide (n < 0))) = b := ⟨_, rfl⟩
    have := key b hb'.symm
    simp only [hb']
    cases b with
    | true =>
      have hp0 := this.1 rfl
      by_cases hf : Am p
      · have c : (p.natAbs : Int) ≤ 9223372036854775808 := by unfold Am at hf; omega
        simp only [cond_true, c, decide_true, Option.bind_some, sumS_of hf, wrap_u64, IntKind.wrap_i64]
        unfold Am at hf
        have e : ((0 - (p.natAbs : Int)) % 18446744073709551616 + 9223372036854775808) % 18446744073709551616 - 9223372036854775808 = p := by omega
        rw [e]
      · have c : ¬ (p.natAbs : Int) ≤ 9223372036854775808 := by unfold Am at hf; omega
        simp [c, sumS_not hf]
    | false =>
      have hp0 := this.2 rfl
      by_cases hf : Am p
      · have c : (p.natAbs : Int) ≤ 9223372036854775807 := by unfold Am at hf; omega
        simp only [cond_false, Bool.not_false, cond_true, c, decide_true, Option.bind_some, sumS_of hf, IntKind.wrap_i64]
        unfold Am at hf
        have e : ((p.natAbs : Int) + 9223372036854775808) % 18446744073709551616 - 9223372036854775808 = p := by omega
        rw [e]
      · have c : ¬ (p.natAbs : Int) ≤ 9223372036854775807 := by unfold Am at hf; omega
        simp [c, sumS_not hf]
  · have e1 : ((p.natAbs : Int) / 18446744073709551616 != 0) = true := by
      have : (p.natAbs : Int) / 18446744073709551616 ≠ 0 := by omega
      simpa using this
    simp only [e1, cond_true]
    rw [sumS_not (by unfold Am; omega)]
theorem ref_Times_is {a n : Int} (ha : Am a) (hn : Am n) : ∃ r, bursarref01_Times.f (a, n) = some r ∧ Told r (a * n) := by
  obtain ⟨h1, h2⟩ := ha
  obtain ⟨h3, h4⟩ := hn
  unfold bursarref01_Times.f
  have zero : Told (0, true) 0 := ⟨rfl, fun _ => rfl⟩
  by_cases c1 : a = 0
  · subst c1; exact ⟨(0, true), by simp, by simpa using zero⟩
  by_cases c2 : n = 0
  · subst c2; exact ⟨(0, true), by simp [c1], by simpa using zero⟩
  have e1 : (a == 0) = false := by simpa using c1
  have e2 : (n == 0) = false := by simpa using c2
  simp only [e1, e2, cond_false]
  have neg : ∀ m : Int, Am m → Told (IntKind.wrap .i64 (-m), m != -9223372036854775808) (-m) := by
    intro m ⟨g1, g2⟩
    by_cases c : m = -9223372036854775808
    · have : ¬ Am (-m) := by unfold Am; omega
      exact ⟨by rw [fits_not this]; simp [c], fun h => by rw [fits_not this] at h; cases h⟩
    · have : Am (-m) := by unfold Am; omega
      exact ⟨by rw [fits_of this]; simpa using c, fun _ => wrap_i64 this.1 this.2⟩
  by_cases c3 : a = -1
  · subst c3
    refine ⟨_, by simp; rfl, ?_⟩
    have := neg n ⟨h3, h4⟩
    simpa using this
  by_cases c4 : n = -1
  · subst c4
    have e3 : (a == -1) = false := by simpa using c3
    refine ⟨(IntKind.wrap .i64 (a * -1), a != -9223372036854775808), by simp only [e3, cond_false, beq_self_eq_true, cond_true], ?_⟩
    have := neg a ⟨h1, h2⟩
    simpa using this
  have e3 : (a == -1) = false := by simpa using c3
  have e4 : (n == -1) = false := by simpa using c4
  have e5 : decide (a = 0) = false := by simpa using c1
  simp only [e3, e4, e5, cond_false]
  refine ⟨_, rfl, ?_⟩
  by_cases hf : Am (a * n)
  · rw [wrap_i64 hf.1 hf.2, Int.mul_tdiv_cancel_left _ c1, wrap_i64 h3 h4]
    exact ⟨by rw [fits_of hf]; simp, fun _ => rfl⟩
  · refine ⟨?_, fun h => by rw [fits_not hf] at h; cases h⟩
    rw [fits_not hf]
    show (IntKind.wrap .i64 (Int.tdiv (IntKind.wrap .i64 (a * n)) a) == n) = false
    have c5 : a ≠ 1 := by rintro rfl; exact hf (by rw [Int.one_mul]; exact ⟨h3, h4⟩)
    obtain ⟨p, hp⟩ : ∃ p, IntKind.wrap .i64 (a * n) = p := ⟨_, rfl⟩
    rw [hp]
    rw [IntKind.wrap_i64] at hp
    obtain ⟨pr, hpr⟩ : ∃ pr, a * n = pr := ⟨_, rfl⟩
    rw [hpr] at hp hf
    have hpb : Am p := by unfold Am; omega
    have hq := Int.mul_tdiv_add_tmod p a
    have hr := Int.natAbs_tmod p a
    have hlt := Nat.mod_lt p.natAbs (show 0 < a.natAbs by omega)
    have ha2 : 2 ≤ a.natAbs := by clear hq hr hlt hp; omega
    have hqb : (Int.tdiv p a).natAbs ≤ 4611686018427387904 := by
      rw [Int.natAbs_tdiv]
      refine Nat.le_trans (Nat.div_le_div_left ha2 (by omega)) ?_
      have : p.natAbs ≤ 9223372036854775808 := by unfold Am at hpb; omega
      omega
    rw [wrap_i64 (by omega) (by omega)]
    cases hb : (Int.tdiv p a == n) with
    | false => rfl
    | true =>
      exfalso
      have hb : Int.tdiv p a = n := by simpa using hb
      rw [hb, hpr] at hq
      unfold Am at hf hpb
      omega
/-! lists -/
theorem few_is {l : List Int} : bursarlaw01_few.f l = some (l.take 300) := by
  unfold bursarlaw01_few.f
  by_cases c : (l.length : Int) > 300
  · have c2 : (300 : Int) ≤ (l.length : Int) := by omega
    simp [c, c2]
  · simp only [c, decide_false, cond_false]
    rw [List.take_of_length_le (by omega)]
theorem am_take {l : List Int} (h : Amounts l) (n : Nat) : Amounts (l.take n) := fun a ha => h a (List.mem_of_mem_take ha)
theorem am_drop {l : List Int} (h : Amounts l) (n : Nat) : Amounts (l.drop n) := fun a ha => h a (List.mem_of_mem_drop ha)
end Go.Proofs.YtbjajidphaeogaaDoor
end
section
/- Contracts of the library at this program, in plain words. Written by a tool of the kit.
-/
namespace Go.Proofs
open Go.Shelf
def Tryd.lays283_ren : Go.Shelf.Ren := ⟨fun | 283 => 113 | n => n, fun | 3 => 3 | 9 => 9 | 4 => 4 | n => n, fun | n => n⟩
theorem Tryd.lays283 : Go.Proofs.Lays.n283 Tryd.prog Tryd.lays283_ren := {
  mixed := by kernel_rfl
  f283 := Tryd.func113.trans (congrArg some (by kernel_rfl))
  t3 := Tryd.underlying3
  a3 := Tryd.isAgg3
  z3 := Tryd.sizeOf3
  v3 := Tryd.zeroValue3
  t4 := Tryd.underlying4
  a4 := Tryd.isAgg4
  z4 := Tryd.sizeOf4
  v4 := Tryd.zeroValue4
  t9 := Tryd.underlying9
  a9 := Tryd.isAgg9
  z9 := Tryd.sizeOf9
  v9 := Tryd.zeroValue9 }
def Tryd.laysM284_ren : Go.Shelf.Ren := ⟨fun | 284 => 114 | 129 => 138 | 317 => 137 | 318 => 139 | n => n, fun | 53 => 89 | 3 => 3 | 212 => 177 | 0 => 0 | 4 => 4 | 46 => 92 | 5 => 5 | 9 => 9 | n => n, fun | 17 => 0 | n => n⟩
theorem Tryd.laysM284 : Go.Proofs.LaysM.n284 Tryd.prog Tryd.laysM284_ren := {
  mixed := by kernel_rfl
  f129 := Tryd.func138.trans (congrArg some (by kernel_rfl))
  f284 := Tryd.func114.trans (congrArg some (by kernel_rfl))
  f317 := Tryd.func137.trans (congrArg some (by kernel_rfl))
  f318 := Tryd.func139.trans (congrArg some (by kernel_rfl))
  t0 := Tryd.underlying0
  a0 := Tryd.isAgg0
  z0 := Tryd.sizeOf0
  v0 := Tryd.zeroValue0
  t3 := Tryd.underlying3
  a3 := Tryd.isAgg3
  z3 := Tryd.sizeOf3
  v3 := Tryd.zeroValue3
  t4 := Tryd.underlying4
  a4 := Tryd.isAgg4
  z4 := Tryd.sizeOf4
  v4 := Tryd.zeroValue4
  t5 := Tryd.underlying5
  a5 := Tryd.isAgg5
  z5 := Tryd.sizeOf5
  v5 := Tryd.zeroValue5
  t9 := Tryd.underlying9
  a9 := Tryd.isAgg9
  z9 := Tryd.sizeOf9
  v9 := Tryd.zeroValue9
  t46 := Tryd.underlying92
  a46 := Tryd.isAgg92
  z46 := Tryd.sizeOf92
  v46 := Tryd.zeroValue92
  t53 := Tryd.underlying89
  a53 := Tryd.isAgg89
  z53 := Tryd.sizeOf89
  v53 := Tryd.zeroValue89
  t212 := Tryd.underlying177
  a212 := Tryd.isAgg177
  z212 := Tryd.sizeOf177
  v212 := Tryd.zeroValue177
  g17 := by kernel_rfl
  i0 := by kernel_rfl
  i3 := by kernel_rfl
  i4 := by kernel_rfl
  i5 := by kernel_rfl
  i9 := by kernel_rfl
  i46 := by kernel_rfl
  i53 := by kernel_rfl
  i212 := by kernel_rfl
  m17 := by kernel_rfl }
def Tryd.lays285_ren : Go.Shelf.Ren := ⟨fun | 285 => 115 | n => n, fun | 37 => 117 | 53 => 89 | 3 => 3 | 4 => 4 | 51 => 178 | 9 => 9 | 5 => 5 | 0 => 0 | n => n, fun | n => n⟩
theorem Tryd.lays285 : Go.Proofs.Lays.n285 Tryd.prog Tryd.lays285_ren := {
  mixed := by kernel_rfl
  f285 := Tryd.func115.trans (congrArg some (by kernel_rfl))
  t0 := Tryd.underlying0
  a0 := Tryd.isAgg0
  z0 := Tryd.sizeOf0
  v0 := Tryd.zeroValue0
  t3 := Tryd.underlying3
  a3 := Tryd.isAgg3
  z3 := Tryd.sizeOf3
  v3 := Tryd.zeroValue3
  t4 := Tryd.underlying4
  a4 := Tryd.isAgg4
  z4 := Tryd.sizeOf4
  v4 := Tryd.zeroValue4
  t5 := Tryd.underlying5
  a5 := Tryd.isAgg5
  z5 := Tryd.sizeOf5
  v5 := Tryd.zeroValue5
  t9 := Tryd.underlying9
  a9 := Tryd.isAgg9
  z9 := Tryd.sizeOf9
  v9 := Tryd.zeroValue9
  t37 := Tryd.underlying117
  a37 := Tryd.isAgg117
  z37 := Tryd.sizeOf117
  v37 := Tryd.zeroValue117
  t51 := Tryd.underlying178
  a51 := Tryd.isAgg178
  z51 := Tryd.sizeOf178
  v51 := Tryd.zeroValue178
  t53 := Tryd.underlying89
  a53 := Tryd.isAgg89
  z53 := Tryd.sizeOf89
  v53 := Tryd.zeroValue89 }
end Go.Proofs
end
section
/- strconv.FormatUint at base 10: the decimal digits, for every number. By this session, after the library's contract of FormatInt. -/
set_option linter.unusedVariables false
namespace Go.Proofs
open Go.Shelf Go.RowKit Go.Sort Go.Lib
theorem Tryd.holds_zero0 (w : World) (T : TypeId) (nd : Nat) (hs : nd ≤ 24) : Holds (fun (b : UInt8) => Value.int .u8 (b.toNat : Int)) (w.alloc (.cells zeros24 T)) w.heap.size 0 (Array.replicate nd (0 : UInt8)) := fun j hj => by
  have hj' : j < nd := by simpa using hj
  refine ⟨?_, World.frozen?_alloc_new _ _ _ _⟩
  rw [World.cell?_alloc_new, zeros24_at _ (by omega), getElem!_pos _ j hj]
  simp
theorem Tryd.fin0 (w : World) (o : Obj) (dk : Array UInt8) (k : Nat) : ∃ os, (putRow (fun (b : UInt8) => Value.int .u8 (b.toNat : Int)) (w.alloc o) w.heap.size 0 dk).drewN k = grow (w.drewN k) os := by
  rw [alloc_eq_grow]
  obtain ⟨os', _, e⟩ := putRow_grow_new (fun (b : UInt8) => Value.int .u8 (b.toNat : Int)) w #[o] w.heap.size 0 dk (Nat.le_refl _)
  exact ⟨os', by rw [e]; rfl⟩
set_option maxHeartbeats 6400000 in
set_option maxRecDepth 100000 in
theorem Tryd.fmtUint_in (u : Nat) (hu64 : u < 18446744073709551616) (w : World) (htab : Lib.TabIs Tryd.prog w "internal/strconv.uint64pow10" .u64 Lib.pow10Tab) :
    Calls Tryd.prog 97 #[.int .u64 u, .int .i64 10] w fun e w' => e = .returned (.string ⟨(Lib.decDigits u).toArray⟩) ∧ ∃ k os, w' = grow (w.drewN k) os := by
  by_cases hs : u < 100
  · go_enter Tryd.func97, Tryd.ntmps97
    go_wp2_with (go_at_call 113; refine (Any.internal_strconv_small Tryd.lays283 u hs _).mono ?_; rintro e w' ⟨rfl, rfl⟩)
    go_ret
    exact ⟨rfl, 0, #[], by simp [World.drewN_zero]⟩
  · have hu1 : 1 ≤ u := by omega
    have hnd20 : Lib.nDigits u ≤ 20 := by have := Lib.numDigits_eq u hu1 hu64; split at this <;> omega
    have hb3 : Lib.nDigits u ≤ 24 := by omega
    have hal : Tryd.prog.arrayLen 151 = 24 := by kernel_rfl
    have hsl1 : ∀ W, (Instr.sliceAt 151 (.pointer (some ⟨w.heap.size, 0, none⟩)) none (some (.int .i64 (Lib.nDigits u : Int))) none).run Tryd.prog W = .ok (.slice (some ⟨w.heap.size, 0, none⟩) (Lib.nDigits u) 24) W := fun W => by
      rw [run_sliceAt_array_h W 151 ⟨w.heap.size, 0, none⟩ (by simp [Program.arrayLen, Program.elem, Tryd.underlying151]) .i64 (Lib.nDigits u : Int) (by omega) (by rw [hal]; omega)]
      go_simp
    have hH0 := Tryd.holds_zero0 w 151 (Lib.nDigits u) (by omega)
    have hfmt := Any.internal_strconv_formatBase10 Tryd.lays285 w.heap.size 0 24 u (Array.replicate (Lib.nDigits u) 0) (w.alloc (.cells Lib.zeros24 151)) hH0 (by rw [Array.size_replicate]; exact Lib.lt_pow_nDigits u) hu64 (by rw [Array.size_replicate]; omega)
    rw [Array.size_replicate] at hfmt
    have HH0 := Lib.hid hH0
    clear hH0 hal
    go_enter Tryd.func97, Tryd.ntmps97
    go_wp2_with (first
      | (go_at_call 114; refine (Any.internal_strconv_numDigits Tryd.laysM284 u hu1 hu64 _ (Lib.tabIs_alloc htab _)).mono ?_; rintro e w' ⟨rfl, rfl⟩))
    go_at_call 115
    refine hfmt.mono ?_
    rintro e w' ⟨rfl, k, v', dk, rfl, hF⟩
    have hcv : (convert 117 9 (.slice (some ⟨w.heap.size, 0, none⟩) (Lib.nDigits u) 24)).run Tryd.prog ((putRow (fun (b : UInt8) => Value.int .u8 (b.toNat : Int)) (w.alloc (.cells Lib.zeros24 151)) w.heap.size 0 dk).drewN k) = .ok (.string ⟨(Lib.decDigits u).toArray⟩) ((putRow (fun (b : UInt8) => Value.int .u8 (b.toNat : Int)) (w.alloc (.cells Lib.zeros24 151)) w.heap.size 0 dk).drewN k) := by
      have h := run_convert_bytes_back (P := Tryd.prog) ((putRow (fun (b : UInt8) => Value.int .u8 (b.toNat : Int)) (w.alloc (.cells Lib.zeros24 151)) w.heap.size 0 dk).drewN k) 117 9 5 ⟨w.heap.size, 0, none⟩ 24 (Lib.decDigits u) Tryd.underlying117 Tryd.underlying5 Tryd.underlying9 (fun j hj => by
        rw [Lib.row_is_numeral hF j hj, Lib.add_plain, World.cell?_drewN]
        exact cell?_putRow (fun (b : UInt8) => Value.int .u8 (b.toNat : Int)) _ w.heap.size 0 _ dk HH0.out (by rw [hF.size, Array.size_replicate]) j (by rw [hF.size]; rw [Lib.decDigits_length] at hj; exact hj))
      rw [Lib.decDigits_length] at h
      exact h
    go_wp2
    go_ret
    obtain ⟨os, eo⟩ := Tryd.fin0 w (.cells Lib.zeros24 151) dk k
    exact ⟨rfl, k, os, eo⟩
set_option maxRecDepth 100000 in
theorem Tryd.fmtUint (u : Nat) (hu64 : u < 18446744073709551616) (w : World) (htab : Lib.TabIs Tryd.prog w "internal/strconv.uint64pow10" .u64 Lib.pow10Tab) :
    Calls Tryd.prog 69 #[.int .u64 u, .int .i64 10] w fun e w' => e = .returned (.string ⟨(Lib.decDigits u).toArray⟩) ∧ ∃ k os, w' = grow (w.drewN k) os := by
  go_enter Tryd.func69, Tryd.ntmps69
  go_wp2_with (go_at_call 97; refine (Tryd.fmtUint_in u hu64 _ htab).mono ?_; rintro e w' ⟨rfl, k, os, rfl⟩)
  go_ret
  exact ⟨rfl, k, os, rfl⟩
end Go.Proofs
end
section
/- Functions of the library, as rows, by its contracts. By this session. -/
set_option linter.unusedVariables false
namespace Go.Proofs.YtbjajidphaeogaaDoor
open Go Go.Fw Go.RowKit
theorem grow_below (w : World) (k : Nat) (os : Array Obj) : Below w.heap.size w (Sort.grow (w.drewN k) os) := by
  have h : Below w.heap.size w (w.drewN k) := by
    induction k with
    | zero => rw [World.drewN_zero]; exact .refl _ _
    | succ k ih => exact ⟨rfl, rfl, rfl, Nat.le_refl _, fun _ _ => rfl⟩
  exact h.trans ⟨rfl, rfl, rfl, by simp [Sort.grow], fun i hi => by
    show ((w.drewN k).heap ++ os)[i]? = _
    rw [Array.getElem?_append, if_pos (Nat.lt_of_lt_of_le hi h.size)]⟩
theorem ent_of {g : FuncId} {fn : Func} (h : P.funcs[g]? = some fn) (hn : (fn.name == "runtime.NumGoroutine") = false) (hb : fn.body.isNone = false) : Fw.Enters P g := ⟨fn, h, hn, hb⟩
/-! FormatUint -/
abbrev strconv_FormatUint.As : Shs := .cons (.x (.i .u64)) (.cons (.x (.i .i64)) .nil)
abbrev strconv_FormatUint.m : Back := [(false, .s)]
abbrev strconv_FormatUint.f (a : (Int × Int)) : Option ByteArray := fmtU a
noncomputable abbrev strconv_FormatUint.row : Row := fnRow 69 strconv_FormatUint.As strconv_FormatUint.m strconv_FormatUint.f
theorem strconv_FormatUint.row_ok : RowOK P G0 strconv_FormatUint.row := by
  have key : ∀ (ds : List D) (a : Int × Int) (q : ByteArray), decArgs strconv_FormatUint.As ds = some a → strconv_FormatUint.f a = some q → Fw.Enters P 69 ∧ PCall P G0 69 ds (.s q) := by
    intro ds a q ha hq
    refine ⟨ent_of Tryd.func69 (by kernel_rfl) (by kernel_rfl), ?_⟩
    have hds := (decArgs_argD ha).symm
    refine PCall.coe (ds' := argD strconv_FormatUint.As a) ?_ (by rw [← hds]; exact coeA_len) fun w I f hf => by rw [← hds]; exact coeA_rel hf
    refine pcall_below fun w I K vs hg hsz hr => ?_
    have h0 := hr 0 (.i .u64 a.1) rfl
    have h1 := hr 1 (.i .i64 a.2) rfl
    have hvs : vs = #[.int .u64 a.1, .int .i64 a.2] := by
      have hs : vs.size = 2 := hsz
      rw [Array.getD_eq_getD_getElem?, Array.getElem?_eq_getElem (by omega)] at h0 h1
      simp only [Option.getD_some] at h0 h1
      refine Array.ext (by simpa using hs) fun i hi hi' => ?_
      match i, hi with
      | 0, _ => cases h : vs[0] <;> rw [h] at h0 <;> cases h0; rfl
      | 1, _ => cases h : vs[1] <;> rw [h] at h1 <;> cases h1; rfl
      | i + 2, hi => omega
    subst hvs
    unfold strconv_FormatUint.f fmtU at hq
    obtain ⟨hb, hq⟩ := cond_some hq
    simp only [Bool.and_eq_true, decide_eq_true_eq] at hb
    obtain ⟨⟨h2, h3⟩, h4⟩ := hb
    injection hq with hq
    subst hq
    obtain ⟨u, hu⟩ : ∃ u : Nat, a.1 = u := ⟨a.1.toNat, by omega⟩
    rw [hu, h4]
    refine (Tryd.fmtUint u (by omega) w (tab_of_glob hg (g := 0) (by kernel_rfl) rfl)).mono ?_
    rintro e w' ⟨rfl, k, os, rfl⟩
    refine ⟨_, rfl, grow_below w k os, ?_⟩
    rw [decF_is 19 _ (by omega)]
    exact RelD.s _
  exact fun ds a q => key ds a q
end Go.Proofs.YtbjajidphaeogaaDoor
end
section
/- The Go function bursarlaw01.awake, as a Lean function, and that it is this one. Written by a program of this session. -/
set_option linter.unusedVariables false
set_option maxRecDepth 100000
namespace Go.Proofs.YtbjajidphaeogaaDoor
open Go Go.Fw
abbrev bursarlaw01_awake.row : Row := closedRow 19 (.b true)
theorem bursarlaw01_awake.row_ok : RowOK P G0 bursarlaw01_awake.row := closed_ok e0_ok (T := [strconv_FormatUint.row]) ⟨strconv_FormatUint.row_ok, trivial⟩ 60 (by kernel_rfl)
end Go.Proofs.YtbjajidphaeogaaDoor
end
section
/- The Go function bursarlaw01.MoneyReckons, as a Lean function, and that it is this one. Written by a program of this session. -/
set_option linter.unusedVariables false
set_option maxRecDepth 100000
namespace Go.Proofs.YtbjajidphaeogaaDoor
open Go Go.Fw
abbrev bursarlaw01_MoneyReckons.As : Shs := (.cons (.x (.i .i64)) (.cons (.x (.i .i64)) (.cons (.x (.i .i64)) .nil)))
abbrev bursarlaw01_MoneyReckons.m : Back := [(false, .b)]
noncomputable abbrev bursarlaw01_MoneyReckons.H : HK := hk P G0 E0 [bursarref01_Sum.row, bursarlaw01_told.row, bursarlaw01_awake.row, money_Add.row, money_Sub.row, money_Times.row, bursarref01_Sub.row, bursarref01_Times.row] noLoops 4
theorem bursarlaw01_MoneyReckons.hok : HKOK P bursarlaw01_MoneyReckons.H := hk_ok e0_ok (rows_ok (ws := [bursarref01_Sum.row, bursarlaw01_told.row, bursarlaw01_awake.row, money_Add.row, money_Sub.row, money_Times.row, bursarref01_Sub.row, bursarref01_Times.row]) ⟨bursarref01_Sum.row_ok, ⟨bursarlaw01_told.row_ok, ⟨bursarlaw01_awake.row_ok, ⟨money_Add.row_ok, ⟨money_Sub.row_ok, ⟨money_Times.row_ok, ⟨bursarref01_Sub.row_ok, ⟨bursarref01_Times.row_ok, trivial⟩⟩⟩⟩⟩⟩⟩⟩) (fun g n => noLoops_ok g n) 4
noncomputable def bursarlaw01_MoneyReckons.f (a : (Int × (Int × Int))) : Option Bool := (((money_Add.f (a.1, a.2.1))).bind fun (x3 : (Int × Int)) => (((money_Sub.f (a.1, a.2.1))).bind fun (x4 : (Int × Int)) => (((money_Times.f (a.1, a.2.2))).bind fun (x5 : (Int × Int)) => (((bursarref01_Sum.f (a.1 :: (a.2.1 :: [])))).bind fun (x6 : (Int × Bool)) => (((bursarref01_Sub.f (a.1, a.2.1))).bind fun (x7 : (Int × Bool)) => (((bursarref01_Times.f (a.1, a.2.2))).bind fun (x8 : (Int × Bool)) => (((bursarlaw01_told.f (x3.1, (x3.2, x6)))).bind fun (x9 : Bool) => (bif x9 then (((bursarlaw01_told.f (x4.1, (x4.2, x7)))).bind fun (x10 : Bool) => (bif x10 then (((bursarlaw01_told.f (x5.1, (x5.2, x8)))).bind fun (x11 : Bool) => (bif x11 then (some true) else (some false))) else (some false))) else (some false)))))))))
theorem bursarlaw01_MoneyReckons.ok : ∀ a : Vals bursarlaw01_MoneyReckons.As.tys, fnK P bursarlaw01_MoneyReckons.H (lp []) 8 bursarlaw01_MoneyReckons.As bursarlaw01_MoneyReckons.m a some = bursarlaw01_MoneyReckons.f a := fun a => by kernel_rfl
noncomputable abbrev bursarlaw01_MoneyReckons.row : Row := fnRow 8 bursarlaw01_MoneyReckons.As bursarlaw01_MoneyReckons.m bursarlaw01_MoneyReckons.f
theorem bursarlaw01_MoneyReckons.row_ok : RowOK P G0 bursarlaw01_MoneyReckons.row := row_told bursarlaw01_MoneyReckons.hok (lp_of (l := []) trivial) (fun _ => rfl) bursarlaw01_MoneyReckons.ok
end Go.Proofs.YtbjajidphaeogaaDoor
end
section
/- The Go function bursarlaw01.MoneySums, as a Lean function, and that it is this one. Written by a program of this session. -/
set_option linter.unusedVariables false
set_option maxRecDepth 100000
namespace Go.Proofs.YtbjajidphaeogaaDoor
open Go Go.Fw
abbrev bursarlaw01_MoneySums.As : Shs := (.cons (.x (.l (.i .i64))) .nil)
abbrev bursarlaw01_MoneySums.m : Back := [(false, .b)]
noncomputable abbrev bursarlaw01_MoneySums.H : HK := hk P G0 E0 [bursarlaw01_few.row, money_Sum.row, bursarref01_Sum.row, bursarlaw01_told.row, bursarlaw01_awake.row] noLoops 4
theorem bursarlaw01_MoneySums.hok : HKOK P bursarlaw01_MoneySums.H := hk_ok e0_ok (rows_ok (ws := [bursarlaw01_few.row, money_Sum.row, bursarref01_Sum.row, bursarlaw01_told.row, bursarlaw01_awake.row]) ⟨bursarlaw01_few.row_ok, ⟨money_Sum.row_ok, ⟨bursarref01_Sum.row_ok, ⟨bursarlaw01_told.row_ok, ⟨bursarlaw01_awake.row_ok, trivial⟩⟩⟩⟩⟩) (fun g n => noLoops_ok g n) 4
abbrev bursarlaw01_MoneySums.sh5 : SSh := ⟨[(0, (.x (.l (.i .i64)))), (3, (.own 0 1)), (4, (.x (.i .i64)))], [.arrN (.i .i64)]⟩
abbrev bursarlaw01_MoneySums.os5 : PEnds := [((.exit 0), ⟨[(0, (.x (.l (.i .i64)))), (3, (.x (.l (.i .i64))))], []⟩)]
noncomputable def bursarlaw01_MoneySums.t5 (s : ((List Int) × (Int × (List Int)))) : Option (((List Int) × (Int × (List Int))) ⊕ (((List Int) × (List Int)))) := (bif (decide ((s.2.1 ≥ (0 : Int)))) then (bif ((decide (((0 : Int) ≤ s.2.1))) && (decide ((s.2.1 < ((List.length s.1) : Int))))) then (bif ((true && (Nat.ble (((List.length s.2.2) + (List.length ((List.getD s.1 (Int.toNat s.2.1) (0 : Int)) :: []))) * 8) 140737488355328)) && (Nat.ble ((List.length s.2.2) + (List.length ((List.getD s.1 (Int.toNat s.2.1) (0 : Int)) :: []))) 140737488355328)) then (some (.inl (s.1, ((IntKind.wrap .i64 (s.2.1 - (1 : Int))), (s.2.2 ++ ((List.getD s.1 (Int.toNat s.2.1) (0 : Int)) :: [])))))) else none) else none) else (some (.inr (s.1, s.2.2))))
theorem bursarlaw01_MoneySums.t5_ok : ∀ s : Vals bursarlaw01_MoneySums.sh5.tys, turnK P bursarlaw01_MoneySums.H (lp []) (bodyAt (codeOf P 3) 5) 0 bursarlaw01_MoneySums.sh5 bursarlaw01_MoneySums.os5 s some = bursarlaw01_MoneySums.t5 s := by rintro ⟨s0, s1, s2⟩; cases s2 <;> kernel_rfl
noncomputable def bursarlaw01_MoneySums.l5 : ((List Int) × (Int × (List Int))) → Option (((List Int) × (List Int))) := rounds bursarlaw01_MoneySums.t5
noncomputable def bursarlaw01_MoneySums.f (a : (List Int)) : Option Bool := (((bursarlaw01_few.f a)).bind fun (x1 : (List Int)) => (((bursarlaw01_MoneySums.l5 (x1, ((IntKind.wrap .i64 (((List.length x1) : Int) - (1 : Int))), [])))).bind fun (x2 : ((List Int) × (List Int))) => (((money_Sum.f x2.1)).bind fun (x3 : (Int × Int)) => (((money_Sum.f x2.2)).bind fun (x4 : (Int × Int)) => (((bursarref01_Sum.f x2.1)).bind fun (x5 : (Int × Bool)) => (((bursarlaw01_told.f (x3.1, (x3.2, x5)))).bind fun (x6 : Bool) => (bif x6 then (bif (x3.1 == x4.1) then (bif (x3.2 == x4.2) then (some true) else (some false)) else (some false)) else (some false))))))))
theorem bursarlaw01_MoneySums.ok : ∀ a : Vals bursarlaw01_MoneySums.As.tys, fnK P bursarlaw01_MoneySums.H (lp [(5, NodeT.summ ⟨bursarlaw01_MoneySums.sh5, bursarlaw01_MoneySums.os5, bursarlaw01_MoneySums.l5⟩ 0)]) 3 bursarlaw01_MoneySums.As bursarlaw01_MoneySums.m a some = bursarlaw01_MoneySums.f a := fun a => by kernel_rfl
noncomputable abbrev bursarlaw01_MoneySums.row : Row := fnRow 3 bursarlaw01_MoneySums.As bursarlaw01_MoneySums.m bursarlaw01_MoneySums.f
theorem bursarlaw01_MoneySums.row_ok : RowOK P G0 bursarlaw01_MoneySums.row := row_told bursarlaw01_MoneySums.hok (lp_of (l := [(5, NodeT.summ ⟨bursarlaw01_MoneySums.sh5, bursarlaw01_MoneySums.os5, bursarlaw01_MoneySums.l5⟩ 0)]) ⟨loop_sum bursarlaw01_MoneySums.hok (by kernel_rfl) (by kernel_rfl) (l := []) trivial bursarlaw01_MoneySums.sh5 bursarlaw01_MoneySums.os5 (by kernel_rfl) bursarlaw01_MoneySums.t5 bursarlaw01_MoneySums.t5_ok, trivial⟩) (fun _ => rfl) bursarlaw01_MoneySums.ok
end Go.Proofs.YtbjajidphaeogaaDoor
end
section
/- The Go function bursarlaw01.MoneyOrder, as a Lean function, and that it is this one. Written by a program of this session. -/
set_option linter.unusedVariables false
set_option maxRecDepth 100000
namespace Go.Proofs.YtbjajidphaeogaaDoor
open Go Go.Fw
abbrev bursarlaw01_MoneyOrder.As : Shs := (.cons (.x (.i .i64)) (.cons (.x (.i .i64)) (.cons (.x (.i .i64)) .nil)))
abbrev bursarlaw01_MoneyOrder.m : Back := [(false, .b)]
noncomputable abbrev bursarlaw01_MoneyOrder.H : HK := hk P G0 E0 [money_Sum.row, bursarlaw01_awake.row, money_Add.row, money_Times.row] noLoops 4
theorem bursarlaw01_MoneyOrder.hok : HKOK P bursarlaw01_MoneyOrder.H := hk_ok e0_ok (rows_ok (ws := [money_Sum.row, bursarlaw01_awake.row, money_Add.row, money_Times.row]) ⟨money_Sum.row_ok, ⟨bursarlaw01_awake.row_ok, ⟨money_Add.row_ok, ⟨money_Times.row_ok, trivial⟩⟩⟩⟩) (fun g n => noLoops_ok g n) 4
abbrev bursarlaw01_MoneyOrder.sh10 : SSh := ⟨[(0, (.x (.i .i64))), (11, (.own 0 1)), (12, (.x (.i .i64))), (13, (.x (.i .i64)))], [.arrN (.i .i64)]⟩
abbrev bursarlaw01_MoneyOrder.os10 : PEnds := [((.exit 0), ⟨[(0, (.x (.i .i64))), (11, (.x (.l (.i .i64)))), (12, (.x (.i .i64)))], []⟩)]
noncomputable def bursarlaw01_MoneyOrder.t10 (s : (Int × (Int × (Int × (List Int))))) : Option ((Int × (Int × (Int × (List Int)))) ⊕ ((Int × ((List Int) × Int)))) := (bif (decide ((s.2.2.1 < s.2.1))) then (bif ((true && (Nat.ble (((List.length s.2.2.2) + (List.length (s.1 :: []))) * 8) 140737488355328)) && (Nat.ble ((List.length s.2.2.2) + (List.length (s.1 :: []))) 140737488355328)) then (some (.inl (s.1, (s.2.1, ((IntKind.wrap .i64 (s.2.2.1 + (1 : Int))), (s.2.2.2 ++ (s.1 :: []))))))) else none) else (some (.inr (s.1, (s.2.2.2, s.2.1)))))
theorem bursarlaw01_MoneyOrder.t10_ok : ∀ s : Vals bursarlaw01_MoneyOrder.sh10.tys, turnK P bursarlaw01_MoneyOrder.H (lp []) (bodyAt (codeOf P 7) 10) 0 bursarlaw01_MoneyOrder.sh10 bursarlaw01_MoneyOrder.os10 s some = bursarlaw01_MoneyOrder.t10 s := by rintro ⟨s0, s1, s2, s3⟩; cases s3 <;> kernel_rfl
noncomputable def bursarlaw01_MoneyOrder.l10 : (Int × (Int × (Int × (List Int)))) → Option ((Int × ((List Int) × Int))) := rounds bursarlaw01_MoneyOrder.t10
noncomputable def bursarlaw01_MoneyOrder.f (a : (Int × (Int × Int))) : Option Bool := (((money_Add.f (a.1, a.2.2))).bind fun (x3 : (Int × Int)) => (((money_Add.f a.2)).bind fun (x4 : (Int × Int)) => (bif (x3.2 == (0 : Int)) then (bif (x4.2 == (0 : Int)) then (bif (!((decide ((a.1 < a.2.1))) == (decide ((x3.1 < x4.1))))) then (some false) else (((bursarlaw01_MoneyOrder.l10 (a.1, ((Int.tmod a.2.2 (40 : Int)), ((0 : Int), []))))).bind fun (x5 : (Int × ((List Int) × Int))) => (bif (decide ((x5.2.2 < (0 : Int)))) then (some true) else (((money_Times.f (x5.1, x5.2.2))).bind fun (x6 : (Int × Int)) => (((money_Sum.f x5.2.1)).bind fun (x7 : (Int × Int)) => (bif (x6.1 == x7.1) then (bif (x6.2 == x7.2) then (some true) else (some false)) else (some false))))))) else (((bursarlaw01_MoneyOrder.l10 (a.1, ((Int.tmod a.2.2 (40 : Int)), ((0 : Int), []))))).bind fun (x5 : (Int × ((List Int) × Int))) => (bif (decide ((x5.2.2 < (0 : Int)))) then (some true) else (((money_Times.f (x5.1, x5.2.2))).bind fun (x6 : (Int × Int)) => (((money_Sum.f x5.2.1)).bind fun (x7 : (Int × Int)) => (bif (x6.1 == x7.1) then (bif (x6.2 == x7.2) then (some true) else (some false)) else (some false))))))) else (((bursarlaw01_MoneyOrder.l10 (a.1, ((Int.tmod a.2.2 (40 : Int)), ((0 : Int), []))))).bind fun (x5 : (Int × ((List Int) × Int))) => (bif (decide ((x5.2.2 < (0 : Int)))) then (some true) else (((money_Times.f (x5.1, x5.2.2))).bind fun (x6 : (Int × Int)) => (((money_Sum.f x5.2.1)).bind fun (x7 : (Int × Int)) => (bif (x6.1 == x7.1) then (bif (x6.2 == x7.2) then (some true) else (some false)) else (some false)))))))))
theorem bursarlaw01_MoneyOrder.ok : ∀ a : Vals bursarlaw01_MoneyOrder.As.tys, fnK P bursarlaw01_MoneyOrder.H (lp [(10, NodeT.summ ⟨bursarlaw01_MoneyOrder.sh10, bursarlaw01_MoneyOrder.os10, bursarlaw01_MoneyOrder.l10⟩ 0)]) 7 bursarlaw01_MoneyOrder.As bursarlaw01_MoneyOrder.m a some = bursarlaw01_MoneyOrder.f a := fun a => by kernel_rfl
noncomputable abbrev bursarlaw01_MoneyOrder.row : Row := fnRow 7 bursarlaw01_MoneyOrder.As bursarlaw01_MoneyOrder.m bursarlaw01_MoneyOrder.f
theorem bursarlaw01_MoneyOrder.row_ok : RowOK P G0 bursarlaw01_MoneyOrder.row := row_told bursarlaw01_MoneyOrder.hok (lp_of (l := [(10, NodeT.summ ⟨bursarlaw01_MoneyOrder.sh10, bursarlaw01_MoneyOrder.os10, bursarlaw01_MoneyOrder.l10⟩ 0)]) ⟨loop_sum bursarlaw01_MoneyOrder.hok (by kernel_rfl) (by kernel_rfl) (l := []) trivial bursarlaw01_MoneyOrder.sh10 bursarlaw01_MoneyOrder.os10 (by kernel_rfl) bursarlaw01_MoneyOrder.t10 bursarlaw01_MoneyOrder.t10_ok, trivial⟩) (fun _ => rfl) bursarlaw01_MoneyOrder.ok
end Go.Proofs.YtbjajidphaeogaaDoor
end
section
/- The Go function bursarlaw01.MoneyBack, as a Lean function, and that it is this one. Written by a program of this session. -/
set_option linter.unusedVariables false
set_option maxRecDepth 100000
namespace Go.Proofs.YtbjajidphaeogaaDoor
open Go Go.Fw
abbrev bursarlaw01_MoneyBack.As : Shs := (.cons (.x T_bursarlaw01_Back) .nil)
abbrev bursarlaw01_MoneyBack.m : Back := [(false, .b)]
noncomputable abbrev bursarlaw01_MoneyBack.H : HK := hk P G0 E0 [bursarlaw01_few.row, money_Sum.row, bursarlaw01_awake.row, money_Add.row, money_Sub.row] noLoops 4
theorem bursarlaw01_MoneyBack.hok : HKOK P bursarlaw01_MoneyBack.H := hk_ok e0_ok (rows_ok (ws := [bursarlaw01_few.row, money_Sum.row, bursarlaw01_awake.row, money_Add.row, money_Sub.row]) ⟨bursarlaw01_few.row_ok, ⟨money_Sum.row_ok, ⟨bursarlaw01_awake.row_ok, ⟨money_Add.row_ok, ⟨money_Sub.row_ok, trivial⟩⟩⟩⟩⟩) (fun g n => noLoops_ok g n) 4
noncomputable def bursarlaw01_MoneyBack.f (a : (Int × (Int × ((List Int) × Int)))) : Option Bool := (((bursarlaw01_few.f a.2.2.1)).bind fun (x1 : (List Int)) => (((money_Add.f (a.1, a.2.1))).bind fun (x2 : (Int × Int)) => (((money_Sub.f (x2.1, a.2.1))).bind fun (x3 : (Int × Int)) => (bif (x2.2 == (0 : Int)) then (bif (x3.1 != a.1) then (some false) else (bif (x3.2 != (0 : Int)) then (some false) else (bif (decide (((IntKind.wrap .i64 (((List.length x1) : Int) + (1 : Int))) = (0 : Int)))) then none else (bif ((decide (((0 : Int) ≤ (Int.tmod (IntKind.wrap .i64 a.2.2.2) (IntKind.wrap .i64 (((List.length x1) : Int) + (1 : Int))))))) && (decide (((Int.tmod (IntKind.wrap .i64 a.2.2.2) (IntKind.wrap .i64 (((List.length x1) : Int) + (1 : Int)))) ≤ ((List.length x1) : Int))))) then (((money_Sum.f (List.take ((Int.toNat (Int.tmod (IntKind.wrap .i64 a.2.2.2) (IntKind.wrap .i64 (((List.length x1) : Int) + (1 : Int))))) - 0) (List.drop 0 x1)))).bind fun (x4 : (Int × Int)) => (bif ((decide (((0 : Int) ≤ (Int.tmod (IntKind.wrap .i64 a.2.2.2) (IntKind.wrap .i64 (((List.length x1) : Int) + (1 : Int))))))) && (decide (((Int.tmod (IntKind.wrap .i64 a.2.2.2) (IntKind.wrap .i64 (((List.length x1) : Int) + (1 : Int)))) ≤ ((List.length x1) : Int))))) then (((money_Sum.f (List.take ((List.length x1) - (Int.toNat (Int.tmod (IntKind.wrap .i64 a.2.2.2) (IntKind.wrap .i64 (((List.length x1) : Int) + (1 : Int)))))) (List.drop (Int.toNat (Int.tmod (IntKind.wrap .i64 a.2.2.2) (IntKind.wrap .i64 (((List.length x1) : Int) + (1 : Int))))) x1)))).bind fun (x5 : (Int × Int)) => (((money_Add.f (x4.1, x5.1))).bind fun (x6 : (Int × Int)) => (((money_Sum.f x1)).bind fun (x7 : (Int × Int)) => (bif (x4.2 != (0 : Int)) then (some true) else (bif (x5.2 != (0 : Int)) then (some true) else (bif (x6.1 == x7.1) then (bif (x6.2 == x7.2) then (some true) else (some false)) else (some false))))))) else none)) else none)))) else (bif (decide (((IntKind.wrap .i64 (((List.length x1) : Int) + (1 : Int))) = (0 : Int)))) then none else (bif ((decide (((0 : Int) ≤ (Int.tmod (IntKind.wrap .i64 a.2.2.2) (IntKind.wrap .i64 (((List.length x1) : Int) + (1 : Int))))))) && (decide (((Int.tmod (IntKind.wrap .i64 a.2.2.2) (IntKind.wrap .i64 (((List.length x1) : Int) + (1 : Int)))) ≤ ((List.length x1) : Int))))) then (((money_Sum.f (List.take ((Int.toNat (Int.tmod (IntKind.wrap .i64 a.2.2.2) (IntKind.wrap .i64 (((List.length x1) : Int) + (1 : Int))))) - 0) (List.drop 0 x1)))).bind fun (x4 : (Int × Int)) => (bif ((decide (((0 : Int) ≤ (Int.tmod (IntKind.wrap .i64 a.2.2.2) (IntKind.wrap .i64 (((List.length x1) : Int) + (1 : Int))))))) && (decide (((Int.tmod (IntKind.wrap .i64 a.2.2.2) (IntKind.wrap .i64 (((List.length x1) : Int) + (1 : Int)))) ≤ ((List.length x1) : Int))))) then (((money_Sum.f (List.take ((List.length x1) - (Int.toNat (Int.tmod (IntKind.wrap .i64 a.2.2.2) (IntKind.wrap .i64 (((List.length x1) : Int) + (1 : Int)))))) (List.drop (Int.toNat (Int.tmod (IntKind.wrap .i64 a.2.2.2) (IntKind.wrap .i64 (((List.length x1) : Int) + (1 : Int))))) x1)))).bind fun (x5 : (Int × Int)) => (((money_Add.f (x4.1, x5.1))).bind fun (x6 : (Int × Int)) => (((money_Sum.f x1)).bind fun (x7 : (Int × Int)) => (bif (x4.2 != (0 : Int)) then (some true) else (bif (x5.2 != (0 : Int)) then (some true) else (bif (x6.1 == x7.1) then (bif (x6.2 == x7.2) then (some true) else (some false)) else (some false))))))) else none)) else none))))))
theorem bursarlaw01_MoneyBack.ok : ∀ a : Vals bursarlaw01_MoneyBack.As.tys, fnK P bursarlaw01_MoneyBack.H (lp []) 6 bursarlaw01_MoneyBack.As bursarlaw01_MoneyBack.m a some = bursarlaw01_MoneyBack.f a := fun a => by kernel_rfl
noncomputable abbrev bursarlaw01_MoneyBack.row : Row := fnRow 6 bursarlaw01_MoneyBack.As bursarlaw01_MoneyBack.m bursarlaw01_MoneyBack.f
theorem bursarlaw01_MoneyBack.row_ok : RowOK P G0 bursarlaw01_MoneyBack.row := row_told bursarlaw01_MoneyBack.hok (lp_of (l := []) trivial) (fun _ => rfl) bursarlaw01_MoneyBack.ok
end Go.Proofs.YtbjajidphaeogaaDoor
end
section
/- MoneyReckons, MoneySums, MoneyOrder, MoneyBack: plain laws. By this session. -/
set_option linter.unusedVariables false
set_option linter.unusedSimpArgs false
namespace Go.Proofs.YtbjajidphaeogaaDoor
open Go Go.Fw
theorem MoneyReckons_is {a b n : Int} (ha : Am a) (hb : Am b) (hn : Am n) : bursarlaw01_MoneyReckons.f (a, (b, n)) = some true := by
  obtain ⟨r, h1, h2⟩ := ref_Sub_is ha hb
  obtain ⟨q, h3, h4⟩ := ref_Times_is ha hn
  unfold bursarlaw01_MoneyReckons.f
  simp only [money_Add_is ha hb, money_Sub_is ha hb, Times_is ha hn, h1, h3, ref_Sum_is (l := [a, b]) (by simp) (am_cons ha (am_cons hb am_nil)), Option.bind_some]
  have e : [a, b].sum = a + b := by simp
  rw [e, told_is (told_sumR (a + b))]
  simp only [Option.bind_some, cond_true]
  rw [told_is h2]
  simp only [Option.bind_some, cond_true]
  rw [told_is h4]
  rfl
theorem room8 {n : Nat} (h : n ≤ 1000000) : ((true && Nat.ble (n * 8) 140737488355328) && Nat.ble n 140737488355328) = true := by
  rw [Nat.ble_eq_true_of_le (by omega), Nat.ble_eq_true_of_le (by omega)]
  rfl
theorem back_is {l : List Int} (h : l.length ≤ 300) : bursarlaw01_MoneySums.l5 (l, (IntKind.wrap .i64 ((l.length : Int) - 1), [])) = some (l, l.reverse) := by
  have go := rounds_to (t := bursarlaw01_MoneySums.t5) (fun i => (l, ((l.length : Int) - 1 - (i : Int), (l.reverse.take i)))) l.length (fun i hi => by
    have d1 : decide ((l.length : Int) - 1 - (i : Int) ≥ 0) = true := decide_eq_true (by omega)
    have d2 : decide ((0 : Int) ≤ (l.length : Int) - 1 - (i : Int)) = true := decide_eq_true (by omega)
    have d3 : decide ((l.length : Int) - 1 - (i : Int) < (l.length : Int)) = true := decide_eq_true (by omega)
    have e1 : ((l.length : Int) - 1 - (i : Int)).toNat = l.length - 1 - i := by omega
    have e2 : IntKind.wrap .i64 ((l.length : Int) - 1 - (i : Int) - 1) = (l.length : Int) - 1 - ((i + 1 : Nat) : Int) := by rw [wrap_i64 (by omega) (by omega)]; omega
    have e3 : l.reverse.take (i + 1) = l.reverse.take i ++ [l.getD (l.length - 1 - i) 0] := by
      rw [take_up 0 (by simpa using hi)]
      congr 2
      rw [getD_at (by simpa using hi), getD_at (by omega), List.getElem_reverse]
    have e4 : (l.reverse.take i).length + [l.getD (l.length - 1 - i) 0].length ≤ 1000000 := by simp; omega
    simp only [bursarlaw01_MoneySums.t5, d1, d2, d3, Bool.and_self, cond_true, e1, room8 e4, e2, e3])
  unfold bursarlaw01_MoneySums.l5
  have e0 : IntKind.wrap .i64 ((l.length : Int) - 1) = (l.length : Int) - 1 - ((0 : Nat) : Int) := by rw [wrap_i64 (by omega) (by omega)]; omega
  rw [e0]
  have st0 : (l, ((l.length : Int) - 1 - ((0 : Nat) : Int), ([] : List Int))) = (fun i : Nat => (l, ((l.length : Int) - 1 - (i : Int), (l.reverse.take i)))) 0 := by simp
  rw [st0, go]
  refine rounds_end ?_
  have d1 : decide ((l.length : Int) - 1 - (l.length : Int) ≥ 0) = false := decide_eq_false (by omega)
  simp only [bursarlaw01_MoneySums.t5, d1, cond_false]
  rw [List.take_of_length_le (by simp)]
theorem MoneySums_is {l : List Int} (hl : Amounts l) : bursarlaw01_MoneySums.f l = some true := by
  unfold bursarlaw01_MoneySums.f
  have h3 : (l.take 300).length ≤ 300 := by simp; omega
  have ha := am_take hl 300
  have hr : Amounts (l.take 300).reverse := fun a h => ha a (List.mem_reverse.1 h)
  simp only [few_is, Option.bind_some, back_is h3, money_Sum_is (l := l.take 300) (by omega) ha, money_Sum_is (l := (l.take 300).reverse) (by simp; omega) hr, ref_Sum_is (l := l.take 300) (by omega) ha]
  rw [told_is (told_sumR _), List.sum_reverse]
  simp
theorem times_l {a : Int} {n : Nat} (h : n ≤ 40) : bursarlaw01_MoneyOrder.l10 (a, ((n : Int), ((0 : Int), []))) = some (a, (List.replicate n a, (n : Int))) := by
  have go := rounds_to (t := bursarlaw01_MoneyOrder.t10) (fun i => (a, ((n : Int), ((i : Int), List.replicate i a)))) n (fun i hi => by
    have d1 : decide ((i : Int) < (n : Int)) = true := decide_eq_true (by omega)
    have e4 : (List.replicate i a).length + [a].length ≤ 1000000 := by simp; omega
    simp only [bursarlaw01_MoneyOrder.t10, d1, cond_true, room8 e4, wrap_up (n := i) (by omega), List.replicate_succ']
    )
  unfold bursarlaw01_MoneyOrder.l10
  have st0 : (a, ((n : Int), ((0 : Int), ([] : List Int)))) = (fun i : Nat => (a, ((n : Int), ((i : Int), List.replicate i a)))) 0 := by simp
  rw [st0, go]
  refine rounds_end ?_
  have d1 : decide ((n : Int) < (n : Int)) = false := decide_eq_false (by omega)
  simp only [bursarlaw01_MoneyOrder.t10, d1, cond_false]
theorem times_neg {a n : Int} (h : n < 0) : bursarlaw01_MoneyOrder.l10 (a, (n, ((0 : Int), []))) = some (a, ([], n)) := by
  unfold bursarlaw01_MoneyOrder.l10
  refine rounds_end ?_
  have d1 : decide ((0 : Int) < n) = false := decide_eq_false (by omega)
  simp only [bursarlaw01_MoneyOrder.t10, d1, cond_false]
theorem order_tail {a n : Int} (ha : Am a) (hn : n ≤ 40) (hn' : -40 ≤ n) : ((bursarlaw01_MoneyOrder.l10 (a, (n, ((0 : Int), [])))).bind fun (x5 : (Int × ((List Int) × Int))) => (bif (decide ((x5.2.2 < (0 : Int)))) then (some true) else (((money_Times.f (x5.1, x5.2.2))).bind fun (x6 : (Int × Int)) => (((money_Sum.f x5.2.1)).bind fun (x7 : (Int × Int)) => (bif (x6.1 == x7.1) then (bif (x6.2 == x7.2) then (some true) else (some false)) else (some false)))))) = some true := by
  by_cases c : n < 0
  · rw [times_neg c]; simp [c]
  · obtain ⟨k, rfl⟩ : ∃ k : Nat, n = k := ⟨n.toNat, by omega⟩
    rw [times_l (by omega)]
    have e : (List.replicate k a).sum = a * k := by
      rw [List.sum_replicate_int, Int.mul_comm]
    have d : decide ((k : Int) < 0) = false := decide_eq_false (by omega)
    simp only [Option.bind_some, d, cond_false, Times_is ha (n := (k : Int)) ⟨by omega, by omega⟩, money_Sum_is (l := List.replicate k a) (by simp; omega) (fun b hb => by rw [(List.mem_replicate.1 hb).2]; exact ha), e]
    simp
theorem MoneyOrder_is {a b c : Int} (ha : Am a) (hb : Am b) (hc : Am c) : bursarlaw01_MoneyOrder.f (a, (b, c)) = some true := by
  unfold bursarlaw01_MoneyOrder.f
  have hm := Int.tmod_lt_of_pos c (show (0 : Int) < 40 by omega)
  have hm2 : -40 ≤ Int.tmod c 40 := by have := Int.lt_tmod_of_pos c (show (0 : Int) < 40 by omega); omega
  simp only [money_Add_is ha hc, money_Add_is hb hc, Option.bind_some, order_tail ha (n := Int.tmod c 40) (by omega) hm2]
  by_cases f1 : Am (a + c)
  · by_cases f2 : Am (b + c)
    · have e : (decide (a < b) == decide (a + c < b + c)) = true := by
        by_cases h : a < b
        · have : a + c < b + c := by omega
          simp [h]
        · have : ¬ a + c < b + c := by omega
          simp [h]
      simp [sumS_of f1, sumS_of f2, e]
    · simp [sumS_of f1, sumS_not f2]
  · simp [sumS_not f1]
theorem sum_cut (l : List Int) (k : Nat) : (l.take k).sum + (l.drop k).sum = l.sum := by
  rw [← List.sum_append_int, List.take_append_drop]
theorem back_tail {l : List Int} (h : l.length ≤ 300) (hl : Amounts l) {k : Nat} (hk : k ≤ l.length) :
    (((money_Sum.f (List.take (k - 0) (List.drop 0 l)))).bind fun (x4 : (Int × Int)) => ((((money_Sum.f (List.take ((List.length l) - k) (List.drop k l)))).bind fun (x5 : (Int × Int)) => (((money_Add.f (x4.1, x5.1))).bind fun (x6 : (Int × Int)) => (((money_Sum.f l)).bind fun (x7 : (Int × Int)) => (bif (x4.2 != (0 : Int)) then (some true) else (bif (x5.2 != (0 : Int)) then (some true) else (bif (x6.1 == x7.1) then (bif (x6.2 == x7.2) then (some true) else (some false)) else (some false)))))))) ) = some true := by
  have e1 : List.take (k - 0) (List.drop 0 l) = l.take k := by simp
  have e2 : List.take (l.length - k) (List.drop k l) = l.drop k := by rw [List.take_of_length_le (by simp)]
  have s1 := sum_cut l k
  have am : ∀ n, Am (sumS n).1 := by
    intro n
    by_cases c : Am n
    · rw [sumS_of c]; exact c
    · rw [sumS_not c]; unfold Am; omega
  rw [e1, e2, money_Sum_is (l := l.take k) (by simp; omega) (am_take hl k), money_Sum_is (l := l.drop k) (by simp; omega) (am_drop hl k), money_Sum_is (l := l) (by omega) hl]
  simp only [Option.bind_some, money_Add_is (am _) (am _)]
  by_cases c1 : Am (l.take k).sum
  · by_cases c2 : Am (l.drop k).sum
    · simp [sumS_of c1, sumS_of c2, s1]
    · simp [sumS_of c1, sumS_not c2]
  · simp [sumS_not c1]
theorem MoneyBack_is {a b : Int} {l : List Int} {cut : Int} (ha : Am a) (hb : Am b) (hl : Amounts l) (hc : 0 ≤ cut ∧ cut ≤ 65535) : bursarlaw01_MoneyBack.f (a, (b, (l, cut))) = some true := by
  unfold bursarlaw01_MoneyBack.f
  have h3 : (l.take 300).length ≤ 300 := by simp; omega
  obtain ⟨m, hm⟩ : ∃ m, l.take 300 = m := ⟨_, rfl⟩
  have hma : Amounts m := hm ▸ am_take hl 300
  rw [hm] at h3
  have e1 : IntKind.wrap .i64 ((m.length : Int) + 1) = (m.length : Int) + 1 := wrap_i64 (by omega) (by omega)
  have e2 : IntKind.wrap .i64 cut = cut := wrap_i64 (by omega) (by omega)
  obtain ⟨k, hk⟩ : ∃ k : Nat, Int.tmod cut ((m.length : Int) + 1) = k := ⟨(Int.tmod cut ((m.length : Int) + 1)).toNat, by have := Int.tmod_nonneg ((m.length : Int) + 1) hc.1; omega⟩
  have hk2 : k ≤ m.length := by have := Int.tmod_lt_of_pos cut (show (0 : Int) < (m.length : Int) + 1 by omega); omega
  have d0 : decide ((m.length : Int) + 1 = 0) = false := decide_eq_false (by omega)
  have d1 : decide ((0 : Int) ≤ (k : Int)) = true := decide_eq_true (by omega)
  have d2 : decide ((k : Int) ≤ (m.length : Int)) = true := decide_eq_true (by omega)
  have bt := back_tail h3 hma hk2
  have am : Am (sumS (a + b)).1 := by
    by_cases c : Am (a + b)
    · rw [sumS_of c]; exact c
    · rw [sumS_not c]; unfold Am; omega
  simp only [few_is, hm, Option.bind_some, money_Add_is ha hb, money_Sub_is am hb, e1, e2, hk, d0, d1, d2, Bool.and_self, cond_true, cond_false, Int.toNat_natCast, bt]
  by_cases c : Am (a + b)
  · have e : a + b - b = a := by omega
    simp [sumS_of c, e, sumS_of ha]
  · simp [sumS_not c]
end Go.Proofs.YtbjajidphaeogaaDoor
end
section
/- Of two amounts the greater one has the greater sum with any third one, where neither is too great; a product by a small number is as often added up. -/
set_option linter.unusedVariables false
set_option linter.unusedSimpArgs false
namespace Go.Proofs.YtbjajidphaeogaaDoor.moneyOrder
open Go Go.Fw Go.ChangeShapes Go.WideShapes Go.ChangeAt Go.RowKit
theorem own : ownKnob Tryd.prog.godebug = none := by kernel_rfl
theorem laidOut : laidOutB Tryd.prog = true := by kernel_rfl
/-- The door's own heap meets the condition. -/
theorem door_met (os : Os) (args : Array Value) : laidMetH Tryd.prog Rows.moneyOrderRow.laid ((World.doorLaid Tryd.prog 400 os).forCall (fun _ _ => 0) ⟨#[], args, []⟩).memory :=
  laidMetH_of_parts3 (fuel := 8) (laidMet_of_run' 8 (by kernel_rfl) (by kernel_rfl)) (by kernel_rfl) (by kernel_rfl)
theorem told {W : World} (h : laidMetH Tryd.prog Rows.moneyOrderRow.laid W) : Glob ⟨W, fun b => b < W.heap.size, fun _ => False, fun _ => 0, fun _ => 0, G0⟩ := by
  rw [MakeChecks.laidMetH_plain _ _ _ (by kernel_rfl)] at h
  have f0 := globAt_tab (P := Tryd.prog) (g := 0) (k := .u64) (zs := [1, 10, 100, 1000, 10000, 100000, 1000000, 10000000, 100000000, 1000000000, 10000000000, 100000000000, 1000000000000, 10000000000000, 100000000000000, 1000000000000000, 10000000000000000, 100000000000000000, 1000000000000000000, 10000000000000000000]) (by kernel_rfl) (Lib.tabIs_of_head (g := 0) (by kernel_rfl) (by kernel_rfl) Tryd.underlying177 Tryd.underlying89 (by kernel_rfl) (by kernel_rfl) (laidMet.tail (laidMet.tail h)))
  exact (glob_cons f0 glob_none')
set_option maxRecDepth 100000 in
theorem lifted (os : Os) (started : os.Started) (H : Type) (enc : TypeId × Value → H) :
    ReturnsInHanded {} Tryd.checked os 7 .any (fun w args => (Rows.moneyOrderSpec.pre enc Tryd.prog Tryd.f7 [] false w args ∧ laidMetH Tryd.prog Rows.moneyOrderRow.laid w) ∧ sizedMet enc Tryd.prog Tryd.f7 (OpenSpec.ofChange Rows.moneyOrderSpec) false w args)
      (Rows.moneyOrderSpec.post enc Tryd.prog Tryd.f7 false true false false) := by
  refine returnsInHanded_of_change_and (C := Tryd.checked) (X := fun w _ => laidMetH Tryd.prog Rows.moneyOrderRow.laid w) (fun _ _ _ hh h => h.of_heap hh) own started (by kernel_rfl) Tryd.func7
    (ChangeSpec.witness_shaped (enc := enc) (C := Tryd.checked) (os := os) (X := fun w _ => laidMetH Tryd.prog Rows.moneyOrderRow.laid w) false (World.doorLaid Tryd.prog 400 os) #[.int .i64 0, .int .i64 0, .int .i64 0] 8 rfl (World.shaped_of_RefB (by kernel_rfl) (by kernel_rfl)) (by kernel_rfl) (by kernel_rfl) (by kernel_rfl) (door_met os _)) ?_
  intro W base args ds gs before hval hW _ _ hL _
  exact law_call (P := Tryd.prog) (g := 7) (tb := Tryd.f7.resultTypes.getD 0 0) laidOut bursarlaw01_MoneyOrder.row_ok (told hL) (by kernel_rfl) (fun a => by kernel_rfl) (by kernel_rfl) (by kernel_rfl) rfl
    (fun ds h => match ds, h with | [_, _, _], _ => ⟨rfl, rfl, rfl⟩) (fun a ha => MoneyOrder_is (bounds_i64 ha.1) (bounds_i64 ha.2.1) (bounds_i64 ha.2.2)) hval hW
set_option maxRecDepth 100000 in
theorem over : Rows.moneyOrderRow.holds Tryd.pinned (OpenSpec.ofChange Rows.moneyOrderSpec) :=
  OpenClaim.holds_of_wide 7 Tryd.f7 rfl rfl rfl rfl rfl rfl rfl ⟨rfl, rfl, rfl, rfl, rfl⟩ rfl rfl rfl rfl rfl (by kernel_rfl) Tryd.func7 (by kernel_rfl)
    (of_decide_eq_true (by kernel_rfl)) (by unfold Func.isWrapper; first | (rw [if_pos (by decide +kernel)]; kernel_rfl) | (rw [if_neg (by decide +kernel)]; exact ⟨rfl, rfl⟩))
    (fun os started H enc _ => lifted os started H enc)
theorem plainParams : (Tryd.f7.params.toList.all fun t => !(Tryd.prog.wantsStandIn t)) = true := by kernel_rfl
theorem card : Rows.MoneyOrderCardSaid :=
  Claim7.holds_tied_plain_at .later [] [.data, .data, .data] true (true, "f731de008941817ed7b362de19589baba67c7bb3ef52ee2c4bb9631146d14688") true
    over (fun _ h => by cases h) (by kernel_rfl) (fun _ h => by cases h) moneyOrder_row_tie rfl ⟨rfl, rfl⟩ (by kernel_rfl) rfl
    (fun f fn hf hfn => by
      obtain rfl : f = 7 := Option.some.inj ((show Tryd.prog.funcNamed "bursar/bursarlaw01.MoneyOrder" = some 7 by kernel_rfl).symm.trans hf) |>.symm
      obtain rfl : fn = Tryd.f7 := (Option.some.inj (Tryd.func7.symm.trans hfn)).symm
      exact ⟨by kernel_rfl, fun j t ht => by
        have h := List.all_eq_true.1 plainParams t (by rw [← Array.getElem?_toList] at ht; exact List.mem_of_getElem? ht)
        exact (show Tryd.prog.wantsStandIn t = false by simpa using h)⟩)
    (by kernel_rfl)
end Go.Proofs.YtbjajidphaeogaaDoor.moneyOrder
namespace Go.Proofs.YtbjajidphaeogaaDoor
/-- The given statement. -/
theorem moneyOrder_holds : Rows.MoneyOrderCardSaid := moneyOrder.card
#print axioms moneyOrder_holds
end Go.Proofs.YtbjajidphaeogaaDoor
end
