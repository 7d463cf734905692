/- A set with one field more has one bit more in its map, or bit 1, too, in one of twice the size, for every set and number, under the given conditions. -/
import Derived.Test.YtkgnhjmbnmaboaaDoorRows
import Derived.Test.YtkgnhjmbnmaboaaDoorCards
import Derived.Test.YtkgnhjmbnmaboaaDoorTie
import Derived.SevenTiedAt
import Derived.ProofKit
import Derived.LaidMore
import Derived.Lay
import Derived.MakeChecks
import Derived.Test.YtkgnhjmbnmaboaaDoorKBitmapOne1
section
/- A set with one more: bits that are 1, and how many there are. By this session. -/
set_option linter.unusedVariables false
set_option linter.unusedSimpArgs false
namespace Go.Proofs.YtkgnhjmbnmaboaaDoor
open Go Go.Fw
/-- how many bits of an octet are 1 -/
def popF : Nat → Nat → Nat
  | 0, _ => 0
  | k + 1, c => if c = 0 then 0 else c % 2 + popF k (c / 2)
theorem popF_le : ∀ k c, popF k c ≤ k
  | 0, _ => Nat.le_refl _
  | k + 1, c => by
    unfold popF
    have := popF_le k (c / 2)
    split <;> omega
theorem pop_rounds {s : ByteArray} {i : Int} : ∀ (k c n : Nat), c < 2 ^ k → c < 256 → n + k ≤ 1000000 → bursarlaw17_ones.l4_5 (s, (n : Int), i, (c : Int)) = some (s, ((n + popF k c : Nat) : Int), i)
  | 0, c, n, h, _, _ => by
    have : c = 0 := by simpa using h
    subst this
    exact rounds_end (by simp [bursarlaw17_ones.t4_5, popF])
  | k + 1, c, n, h, h2, h3 => by
    unfold popF
    split
    · rename_i h0
      subst h0
      exact rounds_end (by simp [bursarlaw17_ones.t4_5])
    · rename_i h0
      have step : bursarlaw17_ones.t4_5 (s, (n : Int), i, (c : Int)) = some (.inl (s, ((n + c % 2 : Nat) : Int), i, ((c / 2 : Nat) : Int))) := by
        have e1 : Int.tmod (c : Int) 2 = ((c % 2 : Nat) : Int) := (Int.ofNat_tmod _ _).symm
        have e2 : Int.tdiv (c : Int) 2 = ((c / 2 : Nat) : Int) := (Int.ofNat_tdiv _ _).symm
        simp only [bursarlaw17_ones.t4_5, decide_eq_true (show (c : Int) > 0 by omega), cond_true, e1, e2]
        rw [wrap_i64 (by omega) (by omega), wrap_i64 (by omega) (by omega)]
        rfl
      have ih := pop_rounds (s := s) (i := i) k (c / 2) (n + c % 2) (by rw [Nat.pow_succ] at h; omega) (by omega) (by omega)
      unfold bursarlaw17_ones.l4_5 at ih ⊢
      rw [rounds_next step, ih, Nat.add_assoc]
def pops (t : List UInt8) : Nat := (t.map fun c => popF 8 c.toNat).sum
theorem pops_up (t : List UInt8) {i : Nat} (h : i < t.length) : pops (t.take (i + 1)) = pops (t.take i) + popF 8 (t.getD i 0).toNat := by
  unfold pops
  rw [take_up 0 h, List.map_append, List.sum_append]
  simp
theorem pops_le (t : List UInt8) : pops t ≤ 8 * t.length := by
  unfold pops
  induction t with
  | nil => simp
  | cons c t ih =>
    have := popF_le 8 c.toNat
    simp only [List.map_cons, List.sum_cons, List.length_cons]
    omega
theorem ones_is {t : List UInt8} (ht : t.length ≤ 16) : bursarlaw17_ones.f (bs t) = some ((pops t : Nat) : Int) := by
  have h := rounds_to (t := bursarlaw17_ones.t4) (fun i => (bs t, ((pops (t.take i) : Nat) : Int), ((i : Nat) : Int))) t.length (fun i hi => by
    have hb := (t.getD i 0).toNat_lt
    have hp := pops_le (t.take i)
    have hl : (t.take i).length ≤ 16 := by simp; omega
    have w1 : IntKind.wrap .i64 (((t.getD i 0).toNat : Nat) : Int) = (((t.getD i 0).toNat : Nat) : Int) := by rw [wrap_i64 (by omega) (by omega)]
    simp only [bursarlaw17_ones.t4, bs_size, inb hi, cond_true, ge0' i, Bool.and_self, Int.toNat_natCast, bt_bs, w1, pop_rounds (s := bs t) (i := (i : Int)) 8 (t.getD i 0).toNat (pops (t.take i)) (by omega) (by omega) (by omega), Option.bind_some, wrap_up (show i < 9223372036854775807 by omega), pops_up t hi])
  have h0 : bursarlaw17_ones.l4 (bs t, 0, 0) = rounds bursarlaw17_ones.t4 (bs t, ((pops (t.take t.length) : Nat) : Int), ((t.length : Nat) : Int)) := h
  unfold bursarlaw17_ones.f
  rw [h0, List.take_length, rounds_end (r := ((pops t : Nat) : Int)) (by simp only [bursarlaw17_ones.t4, bs_size, outb, cond_false])]
  rfl
theorem pop_all : (List.range 256).all (fun v => popF 8 v == ((List.range 8).filter (bitN v)).length) = true := by kernel_rfl
theorem pops_bits : ∀ (b : List Nat), okB b → pops (octs8 b) = ((List.range (8 * b.length)).filter fun i => bitB b (i + 1)).length
  | [], _ => rfl
  | v :: b, h => by
    have ih := pops_bits b fun x hx => h x (List.mem_cons_of_mem _ hx)
    have hv : v < 256 := h v List.mem_cons_self
    have hp := eq_of_beq (List.all_eq_true.1 pop_all v (List.mem_range.2 hv))
    have e : pops (octs8 (v :: b)) = popF 8 v + pops (octs8 b) := by
      have ho : (UInt8.ofNat v).toNat = v := by rw [UInt8.toNat_ofNat']; omega
      simp only [pops, octs8, List.map_cons, List.sum_cons, ho]
    have e1 : ((List.range 8).filter fun i => bitB (v :: b) (i + 1)) = (List.range 8).filter (bitN v) := by
      refine List.filter_congr fun i hi => ?_
      have hi := List.mem_range.1 hi
      unfold bitB
      rw [show i + 1 - 1 = i from rfl, show i / 8 = 0 by omega, show i % 8 = i by omega]
      rfl
    have e2 : ((List.range (8 * b.length)).filter ((fun i => bitB (v :: b) (i + 1)) ∘ fun x => 8 + x)) = (List.range (8 * b.length)).filter fun i => bitB b (i + 1) := by
      refine List.filter_congr fun i hi => ?_
      show bitB (v :: b) (8 + i + 1) = bitB b (i + 1)
      unfold bitB
      rw [show i + 1 - 1 = i from rfl, show 8 + i + 1 - 1 = 8 + i by omega, show (8 + i) / 8 = i / 8 + 1 by omega, show (8 + i) % 8 = i % 8 by omega, List.getD_cons_succ]
    rw [e, ih, hp, List.length_cons, show 8 * (b.length + 1) = 8 + 8 * b.length by omega, List.range_add, List.filter_append, List.length_append, List.filter_map, List.length_map, e1, e2]
theorem pops_map {l : List Int} (h : mayL l = true) : pops (octs8 (mapL l)) = l.length + (bif wide l then 1 else 0) := by
  rw [pops_bits _ (mapL_ok l)]
  have hl := congrArg List.length (bitsL_map h)
  unfold bitsL at hl
  rw [List.length_map, List.filter_map, List.length_map] at hl
  have hb := mapL_bit h (n := 1) (by omega) (by omega)
  have h1 : decide (((1 : Nat) : Int) ∈ l) = false := decide_eq_false fun hn => by have := mayL_mem h hn; omega
  rw [h1, Bool.false_or, decide_eq_true rfl, Bool.and_true] at hb
  obtain ⟨k, hk⟩ : ∃ k, 8 * (mapL l).length = k + 1 := ⟨8 * (mapL l).length - 1, by rw [mapL_len]; cases wide l <;> rfl⟩
  rw [hk, List.range_succ_eq_map] at hl ⊢
  rw [List.filter_cons] at hl ⊢
  simp only [Function.comp, Nat.zero_add, Nat.lt_irrefl, decide_false, Bool.false_and, Bool.false_eq_true, if_false] at hl
  have hc : (List.map Nat.succ (List.range k)).filter (fun i => bitB (mapL l) (i + 1)) = (List.map Nat.succ (List.range k)).filter (fun i => decide (1 < i + 1) && bitS (octs8 (mapL l)) (i + 1)) := by
    refine List.filter_congr fun i hi => ?_
    obtain ⟨j, _, rfl⟩ := List.mem_map.1 hi
    rw [decide_eq_true (by omega), Bool.true_and, bitS_octs _ (mapL_ok l)]
  rw [hc, show (0 : Nat) + 1 = 1 from rfl, hb]
  have hl' : ((List.map Nat.succ (List.range k)).filter (fun i => decide (1 < i + 1) && bitS (octs8 (mapL l)) (i + 1))).length = l.length := hl
  cases wide l
  · rw [if_neg (by simp)]; exact hl'
  · rw [if_pos rfl, List.length_cons, hl']; rfl
/-! ### one more -/
def moreI (l : List Int) (n : Int) (i : Nat) : List Int := (bif decide (l.getD i 0 > n) && (decide (i = 0) || decide (l.getD (i - 1) 0 < n)) then [n] else []) ++ [l.getD i 0]
def moreT (l : List Int) (n : Int) : Nat → List Int
  | 0 => []
  | k + 1 => moreT l n k ++ moreI l n k
theorem moreT_len (l : List Int) (n : Int) : ∀ k, (moreT l n k).length ≤ 2 * k
  | 0 => Nat.le_refl _
  | k + 1 => by
    have := moreT_len l n k
    unfold moreT moreI
    rw [List.length_append, List.length_append]
    cases (decide (l.getD k 0 > n) && (decide (k = 0) || decide (l.getD (k - 1) 0 < n))) <;> simp <;> omega
theorem more_rounds {l : List Int} (hl : l.length ≤ 140) (n : Int) : bursarlaw17_BitmapOne.l8 (l, n, false, 0, []) = some (l, n, decide (n ∈ l), moreT l n l.length) := by
  have h := rounds_to (t := bursarlaw17_BitmapOne.t8) (fun i => (l, n, decide (n ∈ l.take i), ((i : Nat) : Int), moreT l n i)) l.length (fun i hi => by
    have hm := moreT_len l n i
    have hd : decide (n ∈ l.take (i + 1)) = (decide (n ∈ l.take i) || l.getD i 0 == n) := by
      rw [take_up 0 hi, Bool.eq_iff_iff]
      simp only [decide_eq_true_eq, List.mem_append, List.mem_singleton, Bool.or_eq_true, beq_iff_eq]
      constructor
      · rintro (h | h)
        · exact .inl h
        · exact .inr h.symm
      · rintro (h | h)
        · exact .inl h
        · exact .inr h.symm
    have b1 := ble_t (show ((moreT l n i).length + 1) * 8 ≤ 140737488355328 by omega)
    have b2 := ble_t (show (moreT l n i).length + 1 ≤ 140737488355328 by omega)
    have b3 := ble_t (show ((moreT l n i).length + 1 + 1) * 8 ≤ 140737488355328 by omega)
    have b4 := ble_t (show (moreT l n i).length + 1 + 1 ≤ 140737488355328 by omega)
    have z : (((i : Nat) : Int) == 0) = decide (i = 0) := by rw [Bool.eq_iff_iff, beq_iff_eq, decide_eq_true_eq]; omega
    simp only [bursarlaw17_BitmapOne.t8, inb hi, ge0' i, Bool.and_self, Bool.true_and, cond_true, Int.toNat_natCast, List.length_append, List.length_cons, List.length_nil, Nat.zero_add, b1, b2, b3, b4, wrap_up (show i < 9223372036854775807 by omega), z, hd, moreT, moreI]
    by_cases h0 : i = 0
    · simp only [decide_eq_true h0, cond_true, Bool.true_or, Bool.and_true]
      cases (l.getD i 0 == n) <;> cases decide (l.getD i 0 > n) <;> simp
    · have w : IntKind.wrap .i64 (((i : Nat) : Int) - 1) = ((i - 1 : Nat) : Int) := by rw [wrap_i64 (by omega) (by omega)]; omega
      simp only [decide_eq_false h0, cond_false, Bool.false_or, w, ge0' (i - 1), inb (show i - 1 < l.length by omega), Bool.and_self, cond_true, Int.toNat_natCast]
      cases (l.getD i 0 == n) <;> cases decide (l.getD i 0 > n) <;> cases decide (l.getD (i - 1) 0 < n) <;> simp)
  have h0 : bursarlaw17_BitmapOne.l8 (l, n, false, 0, []) = rounds bursarlaw17_BitmapOne.t8 (l, n, decide (n ∈ l.take l.length), ((l.length : Nat) : Int), moreT l n l.length) := h
  rw [h0, List.take_length]
  refine rounds_end ?_
  simp only [bursarlaw17_BitmapOne.t8, outb, cond_false]
/-- is the number put behind all? -/
def lastB (l : List Int) (n : Int) : Bool := bif (l.length : Int) == 0 then true else decide (l.getD (l.length - 1) 0 < n)
def moreL (l : List Int) (n : Int) : List Int := bif lastB l n then moreT l n l.length ++ [n] else moreT l n l.length
theorem more_is {l : List Int} {n : Int} (h : mayL l = true) (hn : n ∉ l) : (moreL l n).length = l.length + 1 ∧ ∀ x, x ∈ moreL l n ↔ x = n ∨ x ∈ l := by
  have hne : ∀ i, i < l.length → l.getD i 0 ≠ n := fun i hi e => hn (by rw [← e, getD_at hi]; exact List.getElem_mem hi)
  have go : ∀ k, k ≤ l.length → ((∀ i, i < k → l.getD i 0 < n) → moreT l n k = l.take k) ∧ ((∃ i, i < k ∧ n < l.getD i 0) → (moreT l n k).length = k + 1 ∧ ∀ x, x ∈ moreT l n k ↔ x = n ∨ x ∈ l.take k) := by
    intro k
    induction k with
    | zero => intro _; exact ⟨fun _ => rfl, fun ⟨i, hi, _⟩ => by omega⟩
    | succ k ih =>
      intro hk
      obtain ⟨ih1, ih2⟩ := ih (by omega)
      refine ⟨fun ha => ?_, fun ⟨i, hi, hgt⟩ => ?_⟩
      · have := ha k (by omega)
        rw [moreT, ih1 fun i hi => ha i (by omega), moreI, decide_eq_false (by omega), take_up 0 (by omega)]
        rfl
      · have hkn : n < l.getD k 0 := by
          by_cases e : i = k
          · subst e; exact hgt
          · have := mayL_rise h (show i < k by omega) (by omega)
            omega
        by_cases hex : ∃ i, i < k ∧ n < l.getD i 0
        · obtain ⟨j1, j2⟩ := ih2 hex
          obtain ⟨i, hi, hgt⟩ := hex
          have hk1 : n < l.getD (k - 1) 0 := by
            by_cases e : i = k - 1
            · subst e; exact hgt
            · have := mayL_rise h (show i < k - 1 by omega) (by omega)
              omega
          have em : moreT l n (k + 1) = moreT l n k ++ [l.getD k 0] := by
            rw [moreT, moreI, decide_eq_false (show ¬ k = 0 by omega), decide_eq_false (show ¬ l.getD (k - 1) 0 < n by omega)]
            simp
          rw [em, take_up 0 (by omega)]
          refine ⟨by rw [List.length_append, j1]; rfl, fun x => ?_⟩
          rw [List.mem_append, List.mem_append, j2 x, or_assoc]
        · have hall : ∀ i, i < k → l.getD i 0 < n := fun i hi => by
            have := hne i (by omega)
            have : ¬ n < l.getD i 0 := fun h' => hex ⟨i, hi, h'⟩
            omega
          have hc : (decide (k = 0) || decide (l.getD (k - 1) 0 < n)) = true := by
            by_cases e : k = 0
            · rw [decide_eq_true e]; rfl
            · rw [decide_eq_true (hall (k - 1) (by omega))]; exact Bool.or_true _
          rw [moreT, ih1 hall, moreI, decide_eq_true hkn, hc, take_up 0 (by omega)]
          refine ⟨by simp; omega, fun x => ?_⟩
          simp only [Bool.and_self, cond_true, List.mem_append, List.mem_singleton]
          constructor
          · rintro (h | h | h)
            · exact .inr (.inl h)
            · exact .inl h
            · exact .inr (.inr h)
          · rintro (h | h | h)
            · exact .inr (.inl h)
            · exact .inl h
            · exact .inr (.inr h)
  obtain ⟨g1, g2⟩ := go l.length (Nat.le_refl _)
  rw [List.take_length] at g1 g2
  by_cases hex : ∃ i, i < l.length ∧ n < l.getD i 0
  · obtain ⟨j1, j2⟩ := g2 hex
    obtain ⟨i, hi, hgt⟩ := hex
    have hk1 : n < l.getD (l.length - 1) 0 := by
      by_cases e : i = l.length - 1
      · subst e; exact hgt
      · have := mayL_rise h (show i < l.length - 1 by omega) (by omega)
        omega
    have hL : lastB l n = false := by
      unfold lastB
      have : ((l.length : Int) == 0) = false := by rw [beq_eq_false_iff_ne]; omega
      rw [this, cond_false, decide_eq_false (by omega)]
    unfold moreL
    rw [hL]
    exact ⟨j1, j2⟩
  · have hall : ∀ i, i < l.length → l.getD i 0 < n := fun i hi => by
      have := hne i hi
      have : ¬ n < l.getD i 0 := fun h' => hex ⟨i, hi, h'⟩
      omega
    have hL : lastB l n = true := by
      unfold lastB
      by_cases e : l.length = 0
      · have : ((l.length : Int) == 0) = true := by rw [beq_iff_eq]; omega
        rw [this]; rfl
      · have : ((l.length : Int) == 0) = false := by rw [beq_eq_false_iff_ne]; omega
        rw [this, cond_false, decide_eq_true (hall _ (by omega))]
    unfold moreL
    rw [hL, g1 hall]
    refine ⟨by simp, fun x => ?_⟩
    simp only [cond_true, List.mem_append, List.mem_singleton]
    exact Or.comm
theorem has_map {l : List Int} (h : mayL l = true) (n : Int) : bitmap_Has.f (bs (octs8 (mapL l)), n) = some (decide (n ∈ l)) := by
  have hs : (octs8 (mapL l)).length ≤ 16 := by rw [octs_size]; cases wide l <;> simp
  rw [has_is (by omega)]
  have := read_map h []
  rw [List.append_nil] at this
  rw [this]
  rfl
theorem l14_is (n : Int) (t : Bool) (a : ByteArray) (e : Int) (b : ByteArray) (f : Int) : bursarlaw17_BitmapOne.l14 (n, t, a, e, b, f) = some (n, a, b, (e != 0 || (f != 0 || t))) := by
  unfold bursarlaw17_BitmapOne.l14
  cases (e != 0) <;> cases (f != 0) <;> rfl
theorem BitmapOne_is (a : List Int × Int) : bursarlaw17_BitmapOne.f a = some true := by
  obtain ⟨l0, n⟩ := a
  obtain ⟨l, hl, e2⟩ : ∃ l : List Int, l.length ≤ 140 ∧ bursarlaw17_BitmapOne.l2 (l0, n, decide ((l0.length : Int) > 140)) = some (l, n) := by
    unfold bursarlaw17_BitmapOne.l2
    by_cases h : l0.length > 140
    · refine ⟨l0.take 140, by simp; omega, ?_⟩
      simp only [decide_eq_true (show (l0.length : Int) > 140 by omega), decide_eq_true (show (140 : Int) ≤ (l0.length : Int) by omega), cond_true, Bool.and_self, List.drop_zero]
    · refine ⟨l0, by omega, ?_⟩
      simp only [decide_eq_false (show ¬ (l0.length : Int) > 140 by omega), cond_false]
  have hmt := moreT_len l n l.length
  have tail : ∀ (t : Bool) (M : List Int), t = decide (n ∈ l) → M = moreL l n → ((bitmap_Map.f l).bind fun (x5 : ByteArray × Int) => (bitmap_Map.f M).bind fun (x6 : ByteArray × Int) => (bursarlaw17_BitmapOne.l14 (n, t, x5.1, x5.2, x6)).bind fun (x7 : Int × ByteArray × ByteArray × Bool) =>
      bif x7.2.2.2 then (bursarlaw17_awake.f ()).bind fun (x8 : Bool) => some x8 else (bursarlaw17_ones.f x7.2.1).bind fun (x8 : Int) => (bursarlaw17_ones.f x7.2.2.1).bind fun (x9 : Int) => (bursarlaw17_BitmapOne.l18 (x7.1, x7.2.1, x7.2.2.1, x8, x9)).bind fun (x10 : Int × ByteArray × ByteArray × Bool) =>
      bif x10.2.2.2 then some false else (bitmap_Has.f (x10.2.2.1, x10.1)).bind fun (x11 : Bool) => bif x11 then (bitmap_Has.f (x10.2.1, x10.1)).bind fun (x12 : Bool) => bif !x12 then (bursarlaw17_awake.f ()).bind fun (x13 : Bool) => some x13 else some false else some false) = some true := by
    rintro t M rfl rfl
    have hM : (moreL l n).length ≤ 1000 := by unfold moreL; cases lastB l n <;> simp <;> omega
    simp only [map_is (show l.length ≤ 1000 by omega), map_is hM, Option.bind_some, awake17]
    cases h1 : mayL l
    · rfl
    cases h2 : mayL (moreL l n)
    · rfl
    simp only [cond_true, l14_is, Option.bind_some, show ((0 : Int) != 0) = false from rfl, Bool.false_or]
    by_cases hn : n ∈ l
    · rw [decide_eq_true hn]; rfl
    rw [decide_eq_false hn, cond_false]
    obtain ⟨m1, m2⟩ := more_is h1 hn
    have hw2 : wide (moreL l n) = (wide l || decide (64 < n)) := by
      unfold wide
      rw [Bool.eq_iff_iff]
      simp only [List.any_eq_true, Bool.or_eq_true, decide_eq_true_eq]
      constructor
      · rintro ⟨x, hx, h64⟩
        rcases (m2 x).1 hx with rfl | hx
        · exact .inr h64
        · exact .inl ⟨x, hx, h64⟩
      · rintro (⟨x, hx, h64⟩ | h64)
        · exact ⟨x, (m2 x).2 (.inr hx), h64⟩
        · exact ⟨n, (m2 n).2 (.inl rfl), h64⟩
    have hs1 : (octs8 (mapL l)).length = bif wide l then 16 else 8 := octs_size
    have hs2 : (octs8 (mapL (moreL l n))).length = bif wide (moreL l n) then 16 else 8 := octs_size
    rw [ones_is (by rw [hs1]; cases wide l <;> simp), ones_is (by rw [hs2]; cases wide (moreL l n) <;> simp), pops_map h1, pops_map h2, m1]
    simp only [Option.bind_some, has_map h2, has_map h1, decide_eq_true ((m2 n).2 (.inl rfl)), decide_eq_false hn]
    have l18 : bursarlaw17_BitmapOne.l18 (n, bs (octs8 (mapL l)), bs (octs8 (mapL (moreL l n))), ((l.length + (bif wide l then 1 else 0) : Nat) : Int), ((l.length + 1 + (bif wide (moreL l n) then 1 else 0) : Nat) : Int)) = some (n, bs (octs8 (mapL l)), bs (octs8 (mapL (moreL l n))), false) := by
      unfold bursarlaw17_BitmapOne.l18
      simp only [bs_size, hs1, hs2]
      cases hw : wide l <;> rw [hw] at hw2
      · by_cases h64 : 64 < n
        · rw [decide_eq_true h64] at hw2
          simp only [Bool.false_or] at hw2
          have w : IntKind.wrap .i64 (((l.length + 0 : Nat) : Int) + 2) = ((l.length + 1 + 1 : Nat) : Int) := by rw [wrap_i64 (by omega) (by omega)]; omega
          simp only [hw2, cond_true, cond_false, w, bne_self_eq_false, decide_eq_false (show ¬ n < 65 by omega)]
          rfl
        · rw [decide_eq_false h64] at hw2
          simp only [Bool.false_or] at hw2
          have w : IntKind.wrap .i64 (((l.length + 0 : Nat) : Int) + 1) = ((l.length + 1 + 0 : Nat) : Int) := by rw [wrap_i64 (by omega) (by omega)]; omega
          simp only [hw2, cond_true, cond_false, w, bne_self_eq_false, beq_self_eq_true]
      · simp only [Bool.true_or] at hw2
        have w : IntKind.wrap .i64 (((l.length + 1 : Nat) : Int) + 1) = ((l.length + 1 + 1 : Nat) : Int) := by rw [wrap_i64 (by omega) (by omega)]; omega
        simp only [hw2, cond_true, cond_false, w, bne_self_eq_false, beq_self_eq_true]
    rw [l18]
    simp only [Option.bind_some, cond_false, has_map h2, has_map h1, decide_eq_true ((m2 n).2 (.inl rfl)), decide_eq_false hn, cond_true, Bool.not_false]
  have l10 : ∀ (b : Bool), bursarlaw17_BitmapOne.l10 (l, n, decide (n ∈ l), b, moreT l n l.length) = some (l, n, (bif b then moreT l n l.length ++ [n] else moreT l n l.length), decide (n ∈ l)) := fun b => by
    unfold bursarlaw17_BitmapOne.l10
    cases b
    · rfl
    · simp only [cond_true, List.length_cons, List.length_nil, Nat.zero_add, ble_t (show ((moreT l n l.length).length + 1) * 8 ≤ 140737488355328 by omega), ble_t (show (moreT l n l.length).length + 1 ≤ 140737488355328 by omega), Bool.and_self]
  unfold bursarlaw17_BitmapOne.f
  rw [e2, Option.bind_some, more_rounds hl, Option.bind_some]
  have hM : moreL l n = (bif lastB l n then moreT l n l.length ++ [n] else moreT l n l.length) := rfl
  obtain ⟨M, hMM⟩ : ∃ M, moreT l n l.length = M := ⟨_, rfl⟩
  simp only [hMM] at l10 hM ⊢
  by_cases h0 : l.length = 0
  · have hz : (((l.length : Nat) : Int) == 0) = true := by rw [beq_iff_eq]; omega
    have hL : lastB l n = true := by unfold lastB; rw [hz]; rfl
    rw [hL] at hM
    cases M with
    | nil => simp only [hz, cond_true, l10, Option.bind_some]; exact tail _ _ rfl hM.symm
    | cons x y => simp only [hz, cond_true, l10, Option.bind_some]; exact tail _ _ rfl hM.symm
  · have hz : (((l.length : Nat) : Int) == 0) = false := by rw [beq_eq_false_iff_ne]; omega
    have w : IntKind.wrap .i64 (((l.length : Nat) : Int) - 1) = ((l.length - 1 : Nat) : Int) := by rw [wrap_i64 (by omega) (by omega)]; omega
    have hL : lastB l n = decide (l.getD (l.length - 1) 0 < n) := by unfold lastB; rw [hz]; rfl
    rw [hL] at hM
    cases M with
    | nil => simp only [hz, cond_false, w, ge0' (l.length - 1), inb (show l.length - 1 < l.length by omega), Bool.and_self, cond_true, Int.toNat_natCast, l10, Option.bind_some]; exact tail _ _ rfl hM.symm
    | cons x y => simp only [hz, cond_false, w, ge0' (l.length - 1), inb (show l.length - 1 < l.length by omega), Bool.and_self, cond_true, Int.toNat_natCast, l10, Option.bind_some]; exact tail _ _ rfl hM.symm
end Go.Proofs.YtkgnhjmbnmaboaaDoor
end
section
/- A set with one field more has one bit more in its map, or bit 1, too, in one of twice the size, for every set and number, under the given conditions. -/
set_option linter.unusedVariables false
set_option linter.unusedSimpArgs false
namespace Go.Proofs.YtkgnhjmbnmaboaaDoor.bitmapOne
open Go Go.Fw Go.ChangeShapes Go.WideShapes Go.ChangeAt Go.RowKit
theorem own : ownKnob Tryd.prog.godebug = none := by kernel_rfl
theorem laidOut : laidOutB Tryd.prog = true := by kernel_rfl
set_option maxRecDepth 100000 in
theorem told {W : World} (h : laidMetH Tryd.prog Rows.bitmapOneRow.laid W) : Glob ⟨W, fun b => b < W.heap.size, fun _ => False, fun _ => 0, fun _ => 0, G1⟩ := by
  rw [MakeChecks.laidMetH_plain _ _ _ (by kernel_rfl)] at h
  have f5 := globAt_tab (P := Tryd.prog) (g := 5) (k := .u64) (zs := [1, 10, 100, 1000, 10000, 100000, 1000000, 10000000, 100000000, 1000000000, 10000000000, 100000000000, 1000000000000, 10000000000000, 100000000000000, 1000000000000000, 10000000000000000, 100000000000000000, 1000000000000000000, 10000000000000000000]) (by kernel_rfl) (Lib.tabIs_of_head (g := 5) (by kernel_rfl) (by kernel_rfl) Tryd.underlying209 Tryd.underlying134 (by kernel_rfl) (by kernel_rfl) (laidMet.tail (laidMet.tail h)))
  have f2 := globAt_err (P := Tryd.prog) (g := 2) (by kernel_rfl) (laid_err (g := 2) (laidMet.tail (laidMet.tail (laidMet.tail (laidMet.tail h)))) (by kernel_rfl) (by kernel_rfl) Tryd.underlying102)
  have f1 := globAt_err (P := Tryd.prog) (g := 1) (by kernel_rfl) (laid_err (g := 1) (laidMet.tail (laidMet.tail (laidMet.tail (laidMet.tail (laidMet.tail h))))) (by kernel_rfl) (by kernel_rfl) Tryd.underlying102)
  have f0 := globAt_tab (P := Tryd.prog) (g := 0) (k := .u8) (zs := [0, 0, 0, 0, 0, 0, 0, 0, 0, 1, 1, 1, 1, 1, 0, 0, 0, 0, 0, 0, 0, 0, 0, 0, 0, 0, 0, 0, 0, 0, 0, 0, 1, 0, 0, 0, 0, 0, 0, 0, 0, 0, 0, 0, 0, 0, 0, 0, 0, 0, 0, 0, 0, 0, 0, 0, 0, 0, 0, 0, 0, 0, 0, 0, 0, 0, 0, 0, 0, 0, 0, 0, 0, 0, 0, 0, 0, 0, 0, 0, 0, 0, 0, 0, 0, 0, 0, 0, 0, 0, 0, 0, 0, 0, 0, 0, 0, 0, 0, 0, 0, 0, 0, 0, 0, 0, 0, 0, 0, 0, 0, 0, 0, 0, 0, 0, 0, 0, 0, 0, 0, 0, 0, 0, 0, 0, 0, 0, 0, 0, 0, 0, 0, 0, 0, 0, 0, 0, 0, 0, 0, 0, 0, 0, 0, 0, 0, 0, 0, 0, 0, 0, 0, 0, 0, 0, 0, 0, 0, 0, 0, 0, 0, 0, 0, 0, 0, 0, 0, 0, 0, 0, 0, 0, 0, 0, 0, 0, 0, 0, 0, 0, 0, 0, 0, 0, 0, 0, 0, 0, 0, 0, 0, 0, 0, 0, 0, 0, 0, 0, 0, 0, 0, 0, 0, 0, 0, 0, 0, 0, 0, 0, 0, 0, 0, 0, 0, 0, 0, 0, 0, 0, 0, 0, 0, 0, 0, 0, 0, 0, 0, 0, 0, 0, 0, 0, 0, 0, 0, 0, 0, 0, 0, 0, 0, 0, 0, 0, 0, 0, 0, 0, 0, 0, 0, 0]) (by kernel_rfl) (Lib.tabIs_of_head (g := 0) (by kernel_rfl) (by kernel_rfl) Tryd.underlying169 Tryd.underlying5 (by kernel_rfl) (by kernel_rfl) (laidMet.tail (laidMet.tail (laidMet.tail (laidMet.tail (laidMet.tail (laidMet.tail (laidMet.tail h))))))))
  exact (glob_cons f5 (glob_cons f0 (glob_cons f1 (glob_cons f2 glob_none'))))
set_option maxRecDepth 100000 in
theorem lifted (os : Os) (started : os.Started) (H : Type) (enc : TypeId × Value → H) :
    ReturnsInHanded {} Tryd.checked os 9 .any (fun w args => (Rows.bitmapOneSpec.pre enc Tryd.prog Tryd.f9 [] false w args ∧ laidMetH Tryd.prog Rows.bitmapOneRow.laid w) ∧ sizedMet enc Tryd.prog Tryd.f9 (OpenSpec.ofChange Rows.bitmapOneSpec) false w args)
      (Rows.bitmapOneSpec.post enc Tryd.prog Tryd.f9 false true false false) := by
  refine returnsInHanded_of_change_and (C := Tryd.checked) (X := fun w _ => laidMetH Tryd.prog Rows.bitmapOneRow.laid w) (fun _ _ _ hh h => h.of_heap hh) own started (by kernel_rfl) Tryd.func9
    (ChangeSpec.witness_shaped (enc := enc) (C := Tryd.checked) (os := os) (X := fun w _ => laidMetH Tryd.prog Rows.bitmapOneRow.laid w) false (World.laidAll Tryd.prog os Rows.bitmapOneRow.laid) #[.slice none 0 0, .int .i64 0] 8 (World.laidAll_os _ _ _) (World.shaped_of_ZipB (by kernel_rfl) (by kernel_rfl)) (by kernel_rfl) (by kernel_rfl) (by kernel_rfl) (by rw [MakeChecks.laidMetH_plain _ _ _ (by kernel_rfl)]; exact laidMet_laidAll _ (by kernel_rfl) (by kernel_rfl))) ?_
  intro W base args ds gs before hval hW _ _ hL _
  exact law_call (P := Tryd.prog) (g := 9) (tb := Tryd.f9.resultTypes.getD 0 0) laidOut bursarlaw17_BitmapOne.row_ok (told hL) (by kernel_rfl) (fun a => by kernel_rfl) (by kernel_rfl) (by kernel_rfl) rfl
    (fun ds h => match ds, h with | [_, _], _ => ⟨rfl, rfl, rfl⟩) (fun a ha => BitmapOne_is a) hval hW
set_option maxRecDepth 100000 in
theorem over : Rows.bitmapOneRow.holds Tryd.pinned (OpenSpec.ofChange Rows.bitmapOneSpec) :=
  OpenClaim.holds_of_wide 9 Tryd.f9 rfl rfl rfl rfl rfl rfl rfl ⟨rfl, rfl, rfl, rfl, rfl⟩ rfl rfl rfl rfl rfl (by kernel_rfl) Tryd.func9 (by kernel_rfl)
    (of_decide_eq_true (by kernel_rfl)) (by unfold Func.isWrapper; first | (rw [if_pos (by decide +kernel)]; kernel_rfl) | (rw [if_neg (by decide +kernel)]; exact ⟨rfl, rfl⟩))
    (fun os started H enc _ => lifted os started H enc)
theorem plainParams : (Tryd.f9.params.toList.all fun t => !(Tryd.prog.wantsStandIn t)) = true := by kernel_rfl
theorem card : Rows.BitmapOneCardSaid :=
  Claim7.holds_tied_plain_at .later [] [.data, .data, .data, .data, .sentinel, .sentinel, .listed, .data, .pinned] true (true, "2e0c885f8446b61dc3283b514c59b90490802f1eb18fc4e80228db72dbdbad7b") true
    over (fun _ h => by cases h) (by kernel_rfl) (fun _ h => by cases h) bitmapOne_row_tie rfl ⟨rfl, rfl⟩ (by kernel_rfl) rfl
    (fun f fn hf hfn => by
      obtain rfl : f = 9 := Option.some.inj ((show Tryd.prog.funcNamed "bursar/bursarlaw17.BitmapOne" = some 9 by kernel_rfl).symm.trans hf) |>.symm
      obtain rfl : fn = Tryd.f9 := (Option.some.inj (Tryd.func9.symm.trans hfn)).symm
      exact ⟨by kernel_rfl, fun j t ht => by
        have h := List.all_eq_true.1 plainParams t (by rw [← Array.getElem?_toList] at ht; exact List.mem_of_getElem? ht)
        exact (show Tryd.prog.wantsStandIn t = false by simpa using h)⟩)
    (by kernel_rfl)
end Go.Proofs.YtkgnhjmbnmaboaaDoor.bitmapOne
namespace Go.Proofs.YtkgnhjmbnmaboaaDoor
/-- The given statement. -/
theorem bitmapOne_holds : Rows.BitmapOneCardSaid := bitmapOne.card
#print axioms bitmapOne_holds
end Go.Proofs.YtkgnhjmbnmaboaaDoor
end
