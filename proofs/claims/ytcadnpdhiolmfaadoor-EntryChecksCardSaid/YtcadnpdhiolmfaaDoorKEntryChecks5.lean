/- What is wrong with any entry, its text, and the entry of any text, is as the document says; texts are parsed as they were. -/
import Derived.Shelf.Strconv.ErrVarAll
import Derived.Test.YtcadnpdhiolmfaaDoorProg
import Derived.Test.YtcadnpdhiolmfaaDoorRows
import Derived.Test.YtcadnpdhiolmfaaDoorCards
import Derived.Test.YtcadnpdhiolmfaaDoorTie
import Derived.SevenTiedAt
import Derived.ProofKit
import Derived.LaidMore
import Derived.Lay
import Derived.MakeChecks
import Derived.Test.YtcadnpdhiolmfaaDoorKEntryChecks4
section
set_option linter.unusedVariables false
set_option linter.unusedSimpArgs false
namespace Go.Proofs.YtcadnpdhiolmfaaDoor
open Go Go.Fw
def spaced (ws : List (List UInt8)) : List UInt8 := (ws.map fun w => 32 :: w).flatten
def noSp (w : List UInt8) : Prop := ∀ z ∈ w, z ≠ 32
theorem spaced_cons (w : List UInt8) (ws : List (List UInt8)) : spaced (w :: ws) = 32 :: (w ++ spaced ws) := rfl
theorem digitsB_mem {s : ByteArray} (h : digitsB s = true) : ∀ c ∈ s.data.toList, 48 ≤ c.toNat ∧ c.toNat ≤ 57 := by
  intro c hc
  obtain ⟨i, hi, rfl⟩ := List.getElem_of_mem hc
  have hs : i < s.size := by simpa using hi
  have := List.all_eq_true.1 h i (List.mem_range.2 hs)
  simp only [digC, Bool.and_eq_true, decide_eq_true_eq] at this
  have hb : bt s i = (((s.data.toList[i]).toNat : Nat) : Int) := by unfold bt; rw [getD_at hi]
  omega
theorem maySB_digits {a : Acc} (h : maySB a = true) : ∀ c ∈ a.2.data.toList, 48 ≤ c.toNat ∧ c.toNat ≤ 57 := by
  obtain ⟨k, s⟩ := a
  unfold maySB at h
  simp only at h ⊢
  by_cases h1 : k = 1
  · subst h1
    have h : cardB s = true := h
    simp only [cardB, soundB, Bool.and_eq_true] at h
    exact digitsB_mem h.2.2.1
  · by_cases h2 : k = 2
    · subst h2
      have h : acqB s = true := h
      simp only [acqB, Bool.and_eq_true] at h
      exact digitsB_mem h.2
    · rw [show (k == 1) = false by simpa using h1, show (k == 2) = false by simpa using h2] at h
      simp only [cond_false, Bool.and_eq_true, decide_eq_true_eq] at h
      rw [h.2, bs_list]
      intro c hc; cases hc
theorem maySB_kind {a : Acc} (h : maySB a = true) : a.1 = 1 ∨ a.1 = 2 ∨ a.1 = 3 ∨ a.1 = 4 := by
  obtain ⟨k, s⟩ := a
  unfold maySB at h
  simp only at h ⊢
  by_cases h1 : k = 1
  · exact .inl h1
  by_cases h2 : k = 2
  · exact .inr (.inl h2)
  rw [show (k == 1) = false by simpa using h1, show (k == 2) = false by simpa using h2] at h
  simp only [cond_false, Bool.and_eq_true, Bool.or_eq_true, beq_iff_eq] at h
  exact .inr (.inr h.1)
def nameL (a : Acc) : List UInt8 := letterOf a.1 :: a.2.data.toList
theorem letter_big (k : Int) : 65 ≤ (letterOf k).toNat := by
  unfold letterOf
  cases (k == 1) <;> cases (k == 2) <;> cases (k == 3) <;> decide
theorem nameL_no {a : Acc} (ha : maySB a = true) : ∀ c ∈ nameL a, c ≠ 32 ∧ c ≠ 61 := by
  intro c hc
  have hd : ∀ n : Nat, (n = 32 ∨ n = 61) → c.toNat ≠ n → c ≠ UInt8.ofNat n := fun n hn h e => h (by rw [e, UInt8.toNat_ofNat']; omega)
  rcases List.mem_cons.1 hc with rfl | hc
  · have := letter_big a.1
    by_cases h3 : a.1 = 1 ∨ a.1 = 2 ∨ a.1 = 3 ∨ a.1 = 4
    · rcases h3 with h | h | h | h <;> rw [h] <;> decide
    · exact absurd (maySB_kind ha) h3
  · have := maySB_digits ha c hc
    exact ⟨hd 32 (.inl rfl) (by omega), hd 61 (.inr rfl) (by omega)⟩
theorem txt_no {a : Int} : ∀ c ∈ txt a, c ≠ 32 ∧ c ≠ 61 := by
  intro c hc
  have key : ∀ n : Nat, 48 ≤ n → n ≤ 57 → c.toNat = n → c ≠ 32 ∧ c ≠ 61 := fun n h1 h2 h => ⟨fun e => by rw [e] at h; have : (32 : UInt8).toNat = 32 := rfl; omega, fun e => by rw [e] at h; have : (61 : UInt8).toNat = 61 := rfl; omega⟩
  unfold txt at hc
  rcases List.mem_append.1 hc with hc | hc
  · split at hc
    · rw [List.mem_singleton.1 hc]; decide
    · cases hc
  · unfold body at hc
    rcases List.mem_append.1 hc with hc | hc
    · have := decP_dig _ _ _ hc
      exact key _ this.1 this.2 rfl
    · have hx : ∀ x, c = dgt (x % 10) → c ≠ 32 ∧ c ≠ 61 := fun x e => by
        have := dgt_nat (n := x % 10) (by omega)
        exact key (48 + x % 10) (by omega) (by omega) (by rw [e, this])
      simp only [List.mem_cons, List.not_mem_nil, or_false] at hc
      rcases hc with hc | hc | hc | hc
      · exact hx _ hc
      · rw [hc]; decide
      · exact hx _ hc
      · exact hx _ hc
def numL (n : Nat) : List UInt8 := decP 19 (n / 10) ++ [dgt (n % 10)]
theorem numL_val {n : Nat} (h : n ≤ 2147483647) : Lib.parseUintM 18446744073709551615 0 (numL n) = Lib.parseUintM 18446744073709551615 n [] := by
  unfold numL
  rw [parse_decP _ 19 _ _ (by omega) (by omega) (by omega), parse_dig (by omega) (by omega) (by omega), show n / 10 * 10 + n % 10 = n by omega]
theorem numL_no {n : Nat} : noSp (numL n) := by
  intro c hc e
  have : 48 ≤ c.toNat := by
    rcases List.mem_append.1 hc with hc | hc
    · exact (decP_dig _ _ _ hc).1
    · rw [List.mem_singleton.1 hc, dgt_nat (by omega)]; omega
  rw [e] at this
  exact absurd this (by decide)
theorem itoa_num {n : Int} (h0 : 0 ≤ n) (h1 : n ≤ 2147483647) : strconv_Itoa.f n = some (bs (numL n.toNat)) := by
  unfold strconv_Itoa.f itoaI numL
  rw [decide_eq_true (show -9223372036854775808 ≤ n by omega), decide_eq_true (show n ≤ 9223372036854775807 by omega), decide_eq_false (show ¬ n < 0 by omega), decF_decP 19 n.toNat (by omega)]
  rfl
def lineT (y : Lin) : List UInt8 := nameL y.1 ++ 61 :: txt y.2
def textE (x : Ent) : List UInt8 := numL x.1.toNat ++ 32 :: (x.2.1.data.toList ++ spaced (x.2.2.map lineT))
theorem checkE_ok {x : Ent} (h : checkE x = 0) : 0 ≤ x.1 ∧ x.1 ≤ 2147483647 ∧ okRef x.2.1 = true ∧ 2 ≤ x.2.2.length ∧ x.2.2.length ≤ 8 ∧ okLines x.2.2 = true ∧ fits (x.2.2.map (·.2)).sum = true ∧ (x.2.2.map (·.2)).sum = 0 := by
  unfold checkE at h
  by_cases c1 : x.1 < 0
  · simp [c1] at h
  by_cases c2 : x.1 > 2147483647
  · simp [c2] at h
  cases c3 : okRef x.2.1
  · simp [c3] at h
  by_cases c4 : x.2.2.length < 2
  · simp [c4] at h
  by_cases c5 : x.2.2.length > 8
  · simp [c5] at h
  cases c6 : okLines x.2.2
  · simp [c6] at h
  rw [decide_eq_false c1, decide_eq_false c2, c3, decide_eq_false c4, decide_eq_false c5, c6] at h
  simp only [Bool.not_true, Bool.or_false, cond_false] at h
  cases c7 : fits (x.2.2.map (·.2)).sum
  · rw [c7] at h; cases h
  · rw [c7] at h
    simp only [cond_true] at h
    by_cases c8 : (x.2.2.map (·.2)).sum = 0
    · exact ⟨by omega, by omega, rfl, by omega, by omega, rfl, rfl, c8⟩
    · rw [show ((x.2.2.map (·.2)).sum == 0) = false by simpa using c8] at h
      cases h
theorem okLines_at {l : List Lin} (h : okLines l = true) {i : Nat} (hi : i < l.length) : maySB (l.getD i zL).1 = true ∧ ∀ j, j < i → (l.getD j zL).1 ≠ (l.getD i zL).1 := by
  have := List.all_eq_true.1 h i (List.mem_range.2 hi)
  simp only [okLine, Bool.and_eq_true, Bool.not_eq_true'] at this
  refine ⟨this.2.2, fun j hj e => ?_⟩
  have h1 := this.1
  rw [List.any_eq_false] at h1
  exact h1 j (List.mem_range.2 hj) (decide_eq_true e)
theorem okLines_mem {l : List Lin} (h : okLines l = true) : ∀ y ∈ l, maySB y.1 = true := by
  intro y hy
  obtain ⟨i, hi, rfl⟩ := List.getElem_of_mem hy
  have := (okLines_at h hi).1
  rwa [getD_at hi] at this
theorem chartName_is {a : Acc} (h : maySB a = true) (hs : a.2.size ≤ 1000) : chart_Name.f a = some (bs (nameL a), 0) := by
  have hm := chartMay_is a
  obtain ⟨k, s⟩ := a
  have hs : s.size ≤ 1000 := hs
  have p := maySB_kind h
  unfold chart_Name.f
  rw [hm, h]
  simp only at p
  rcases p with rfl | rfl | rfl | rfl <;> (simp only [Option.bind_some, Bool.not_true, cond_false]; rw [Nat.ble_eq_true_of_le (show 1 + s.size ≤ 9223372036854775807 by omega), bs_cons]; rfl)
theorem nameL_len {a : Acc} (h : maySB a = true) : (nameL a).length ≤ 17 ∧ a.2.size ≤ 1000 := by
  have hl : a.2.data.toList.length = a.2.size := by simp
  have : a.2.size ≤ 16 := by
    obtain ⟨k, s⟩ := a
    unfold maySB at h
    simp only at h ⊢
    by_cases h1 : k = 1
    · subst h1
      have h : cardB s = true := h
      simp only [cardB, Bool.and_eq_true, beq_iff_eq] at h
      omega
    · by_cases h2 : k = 2
      · subst h2
        have h : acqB s = true := h
        simp only [acqB, Bool.and_eq_true, beq_iff_eq] at h
        omega
      · rw [show (k == 1) = false by simpa using h1, show (k == 2) = false by simpa using h2] at h
        simp only [cond_false, Bool.and_eq_true, decide_eq_true_eq] at h
        rw [h.2, bs_size]; simp
  unfold nameL
  rw [List.length_cons]
  omega
theorem spaced_app (l m : List (List UInt8)) : spaced (l ++ m) = spaced l ++ spaced m := by unfold spaced; simp
theorem text_rounds12 {l : List Lin} (hl : l.length ≤ 8) (hok : okLines l = true) (hg : goodL l) {p : List UInt8} (hp : p.length ≤ 1000) :
    entry_Text.l8 (bs p, l, (l.length : Int), 0) = some (bs (p ++ spaced (l.map lineT))) := by
  have len : ∀ i, i ≤ l.length → (spaced ((l.take i).map lineT)).length ≤ 50 * i := fun i => by
    induction i with
    | zero => intro _; simp [spaced]
    | succ i ih =>
      intro hi
      have h1 := ih (by omega)
      have hm := (okLines_at hok (i := i) (by omega)).1
      have n1 := (nameL_len hm).1
      have n2 := txt_len (l.getD i zL).2
      rw [take_up zL (by omega), List.map_append, spaced_app, List.length_append]
      simp only [List.map_cons, List.map_nil, spaced, List.flatten_cons, List.flatten_nil, List.append_nil, List.length_cons, lineT, List.length_append] at h1 ⊢
      omega
  have h := rounds_to (t := entry_Text.t8) (fun i => (bs (p ++ spaced ((l.take i).map lineT)), l, (l.length : Int), ((i : Nat) : Int))) l.length (fun i hi => by
    have hm := (okLines_at hok hi).1
    have n1 := nameL_len hm
    have n2 := txt_len (l.getD i zL).2
    have n3 := len i (by omega)
    have hA : Am (l.getD i zL).2 := by rw [getD_at hi]; exact (hg _ (List.getElem_mem hi)).2.2
    have e : ∀ a : List UInt8, p ++ spaced ((l.take (i + 1)).map lineT) = (p ++ spaced ((l.take i).map lineT)) ++ (([32] ++ nameL (l.getD i zL).1) ++ [61] ++ txt (l.getD i zL).2) := fun _ => by
      rw [take_up zL hi, List.map_append, spaced_app]
      simp [spaced, lineT]
    rw [e []]
    simp only [entry_Text.t8, inb hi, cond_true, ge0' i, Bool.and_self, Int.toNat_natCast, dflt_line, chartName_is hm n1.2, Option.bind_some, Text_is hA, bs_append, bs_size, wrap_up (show i < 9223372036854775807 by omega)]
    simp only [List.length_append, List.length_cons, List.length_nil]
    rw [Nat.ble_eq_true_of_le (by omega), Nat.ble_eq_true_of_le (by omega), Nat.ble_eq_true_of_le (by omega), Nat.ble_eq_true_of_le (by omega)]
    rfl)
  have h0 : entry_Text.l8 (bs (p ++ spaced ((l.take 0).map lineT)), l, (l.length : Int), 0) = rounds entry_Text.t8 (bs (p ++ spaced ((l.take l.length).map lineT)), l, (l.length : Int), ((l.length : Nat) : Int)) := h
  have e0 : p ++ spaced ((l.take 0).map lineT) = p := by simp [spaced]
  rw [e0] at h0
  rw [h0, List.take_length, rounds_end (r := bs (p ++ spaced (l.map lineT))) (by simp only [entry_Text.t8, outb, cond_false])]
theorem entText_is {x : Ent} (hg : goodL x.2.2) : entry_Text.f x = some (bif checkE x == 0 then (bs (textE x), 0) else (bs [], checkE x)) := by
  unfold entry_Text.f
  rw [check_is hg, Option.bind_some, bne]
  by_cases h0 : checkE x = 0
  · obtain ⟨h1, h2, h3, h4, h5, h6, h7, h8⟩ := checkE_ok h0
    have hr : x.2.1.data.toList.length ≤ 20 := by
      unfold okRef at h3
      simp only [Bool.and_eq_true, decide_eq_true_eq] at h3
      simpa using h3.1
    have hr' : x.2.1.size ≤ 20 := by simpa using hr
    have hn : (numL x.1.toNat).length ≤ 20 := by
      have := decP_len 19 (x.1.toNat / 10)
      unfold numL; simp; omega
    rw [h0]
    simp only [BEq.rfl, Bool.not_true, cond_false, cond_true, itoa_num h1 h2, Option.bind_some, bs_append, bs_size]
    have ha : bs (numL x.1.toNat ++ [32]) ++ x.2.1 = bs (numL x.1.toNat ++ [32] ++ x.2.1.data.toList) := by
      conv => lhs; rhs; rw [eq_bs x.2.1]
      rw [bs_append]
    rw [ha, text_rounds12 h5 h6 hg (by simp only [List.length_append, List.length_cons, List.length_nil]; omega)]
    rw [Nat.ble_eq_true_of_le (by omega), Nat.ble_eq_true_of_le (by simp only [List.length_append, List.length_cons, List.length_nil]; omega)]
    unfold textE
    simp
  · have e : (checkE x == 0) = false := by simpa using h0
    rw [e]
    rfl
theorem okRef_no {s : ByteArray} (h : okRef s = true) : noSp s.data.toList := by
  intro c hc e
  unfold okRef at h
  simp only [Bool.and_eq_true, List.all_eq_true, decide_eq_true_eq] at h
  have := (h.2 c hc).1
  rw [e] at this
  exact absurd this (by decide)
theorem lineT_no {y : Lin} (h : maySB y.1 = true) : noSp (lineT y) := by
  intro c hc
  unfold lineT at hc
  rcases List.mem_append.1 hc with hc | hc
  · exact (nameL_no h c hc).1
  · rcases List.mem_cons.1 hc with rfl | hc
    · decide
    · exact (txt_no c hc).1
def cutA (y : Lin) : Lin := bif decide ((y.1.2.size : Int) > 20) then ((y.1.1, y.1.2.extract 0 20), y.2) else y
theorem cutA_good {l : List Lin} (h : ∀ y ∈ l, (Lit.int .i64 y.1.1).wf = true ∧ Am y.2) : goodL (l.map cutA) := by
  intro z hz
  obtain ⟨y, hy, rfl⟩ := List.mem_map.1 hz
  have hmax : (20 : Nat) ≤ maxLen := by decide
  obtain ⟨h1, h2⟩ := h y hy
  unfold cutA
  by_cases c : (y.1.2.size : Int) > 20
  · rw [decide_eq_true c]
    refine ⟨h1, ?_, h2⟩
    show (y.1.2.extract 0 20).size ≤ maxLen
    rw [ByteArray.size_extract]; omega
  · rw [decide_eq_false c]
    exact ⟨h1, by simp only [cond_false]; omega, h2⟩
theorem few12_rounds {l : List Lin} (hl : l.length ≤ 10) (b : Int) (r : ByteArray) (z : Int × ByteArray × List Lin × List Lin) (hz : z = (0, bs [], [], [])) :
    bursarlaw12_Few.l10 (0, b, r, l, z) = some (l.map cutA, b, r, l, 0, bs [], []) := by
  subst hz
  have h := rounds_map (t := bursarlaw12_Few.t10) l zL cutA (fun acc i => (((i : Nat) : Int), b, r, l, (0 : Int), bs [], acc, ([] : List Lin))) (fun acc => (acc, b, r, l, (0 : Int), bs [], ([] : List Lin))) (fun i hi => by
    have hm : ((l.take i).map cutA).length ≤ 1000 := by simp; omega
    unfold bursarlaw12_Few.t10
    rw [dflt_line]
    simp only [inb hi, cond_true, ge0' i, Bool.and_self, Int.toNat_natCast, wrap_up (show i < 9223372036854775807 by omega), List.length_cons, List.length_nil]
    rw [Nat.ble_eq_true_of_le (by omega), Nat.ble_eq_true_of_le (by omega)]
    unfold cutA
    by_cases c : ((l.getD i zL).1.2.size : Int) > 20
    · rw [decide_eq_true c, decide_eq_true (show (20 : Int) ≤ ((l.getD i zL).1.2.size : Int) by omega)]
      rfl
    · rw [decide_eq_false c]
      rfl) (fun _ _ => by simp only [bursarlaw12_Few.t10, outb, cond_false])
  exact h
theorem few12_is (x : Ent) (hw : ∀ y ∈ x.2.2, (Lit.int .i64 y.1.1).wf = true ∧ Am y.2) : ∃ z, bursarlaw12_Few.f x = some z ∧ goodL z.2.2 ∧ z.2.2.length ≤ 10 ∧ z.1 = x.1 := by
  obtain ⟨b, r, l⟩ := x
  have hw : ∀ y ∈ l, (Lit.int .i64 y.1.1).wf = true ∧ Am y.2 := hw
  have hc : (List.take 10 (List.drop 0 l)).length ≤ 10 := by simp; omega
  have hcw : ∀ y ∈ List.take 10 (List.drop 0 l), (Lit.int .i64 y.1.1).wf = true ∧ Am y.2 := fun y hy => hw y (List.mem_of_mem_drop (List.mem_of_mem_take hy))
  unfold bursarlaw12_Few.f
  by_cases c1 : (l.length : Int) > 10
  · by_cases c2 : (r.size : Int) > 25
    · simp only [decide_eq_true c1, decide_eq_true (show (10 : Int) ≤ (l.length : Int) by omega), decide_eq_true c2, decide_eq_true (show (25 : Int) ≤ (r.size : Int) by omega), Bool.and_self, cond_true, few12_rounds hc _ _ _ rfl, Option.bind_some]
      exact ⟨_, rfl, cutA_good hcw, by rw [List.length_map]; exact hc, rfl⟩
    · simp only [decide_eq_true c1, decide_eq_true (show (10 : Int) ≤ (l.length : Int) by omega), decide_eq_false c2, Bool.and_self, cond_true, cond_false, few12_rounds hc _ _ _ rfl, Option.bind_some]
      exact ⟨_, rfl, cutA_good hcw, by rw [List.length_map]; exact hc, rfl⟩
  · have hl : l.length ≤ 10 := by omega
    by_cases c2 : (r.size : Int) > 25
    · simp only [decide_eq_false c1, decide_eq_true c2, decide_eq_true (show (25 : Int) ≤ (r.size : Int) by omega), Bool.and_self, cond_true, cond_false, few12_rounds hl _ _ _ rfl, Option.bind_some]
      exact ⟨_, rfl, cutA_good hw, by rw [List.length_map]; exact hl, rfl⟩
    · simp only [decide_eq_false c1, decide_eq_false c2, Bool.and_self, cond_true, cond_false, few12_rounds hl _ _ _ rfl, Option.bind_some]
      exact ⟨_, rfl, cutA_good hw, by rw [List.length_map]; exact hl, rfl⟩
end Go.Proofs.YtcadnpdhiolmfaaDoor
end
section
set_option linter.unusedVariables false
set_option linter.unusedSimpArgs false
namespace Go.Proofs.YtcadnpdhiolmfaaDoor
open Go Go.Fw
def cut (l : List UInt8) : List UInt8 := if 0 ≤ Lib.indexByte l 46 then l.take (Lib.indexByte l 46).toNat ++ l.drop ((Lib.indexByte l 46).toNat + 1) else l
def sgn (b : Bool) (u : Nat) : Int := bif b then -(u : Int) else u
def Reads (b : Bool) (l r : List UInt8) (q : Int × Int) : Prop :=
  (q = (0, 4) ∨ ∃ v, Am v ∧ txt v = l ∧ q = (v, 0)) ∧ ∀ u, Lib.parseUintB 64 (cut r) = .ok u → Am (sgn b u) → txt (sgn b u) = l → q = (sgn b u, 0)
theorem tail_reads (b : Bool) (l r w : List UInt8) (hw : w = cut r) (hl : w.length ≤ 1000) : ∃ q, (strconv_ParseUint.f (bs w, ((10 : Int), (64 : Int)))).bind (fun (x1 : (Int × Bool)) => (bif (!(!x1.2)) then (some ((0 : Int), (4 : Int))) else (((money_signed.f (x1.1, b))).bind fun (x2 : (Int × Int)) => (bif (x2.2 != (0 : Int)) then (some ((0 : Int), (4 : Int))) else (((money_Text.f x2.1)).bind fun (x3 : ByteArray) => (bif (!(decide (x3 = bs l))) then (some ((0 : Int), (4 : Int))) else (some (x2.1, (0 : Int))))))))) = some q ∧ Reads b l r q := by
  subst hw
  have hp : strconv_ParseUint.f (bs (cut r), (10, 64)) = some (parseU (cut r)) := by
    unfold strconv_ParseUint.f
    simp only [bs_list, bs_size]
    have h0 : (cut r).length ≤ 281474976710656 := by omega
    simp only [h0, decide_true, Bool.true_and, cond_true]
  rw [hp, Option.bind_some]
  unfold parseU Reads
  cases h : Lib.parseUintB 64 (cut r) with
  | «syntax» => exact ⟨(0, 4), rfl, .inl rfl, fun u h => by cases h⟩
  | range => exact ⟨(0, 4), rfl, .inl rfl, fun u h => by cases h⟩
  | ok u =>
    have hu := Lib.parseUintB_le h
    obtain ⟨q, h1, h2, h3⟩ := signed_is (u := u) (b := b) (by omega)
    simp only [Bool.not_false, Bool.not_true, cond_false]
    rw [h1, Option.bind_some]
    have hs : (bif b then -(u : Int) else (u : Int)) = sgn b u := rfl
    rw [hs] at h2 h3
    rcases h2 with h2 | ⟨ha, h2⟩
    · subst h2
      refine ⟨(0, 4), rfl, .inl rfl, fun u' e hA _ => ?_⟩
      injection e with e
      subst e
      have := h3 hA
      injection this with _ h
      cases h
    · subst h2
      have hz : ((0 : Int) != 0) = false := by decide
      simp only [hz, cond_false]
      rw [Text_is ha, Option.bind_some]
      by_cases ht : txt (sgn b u) = l
      · subst ht
        simp only [decide_true, Bool.not_true, cond_false]
        exact ⟨_, rfl, .inr ⟨_, ha, rfl, rfl⟩, fun u' e _ _ => by injection e with e; subst e; rfl⟩
      · have hn : decide (bs (txt (sgn b u)) = bs l) = false := by rw [decide_eq_false_iff_not, bs_inj]; exact ht
        rw [hn]
        refine ⟨(0, 4), rfl, .inl rfl, fun u' e _ h => ?_⟩
        injection e with e
        subst e
        exact absurd h ht
theorem lists_eq (l r : List UInt8) : (l == r) = decide (l = r) := by rw [Bool.eq_iff_iff, beq_iff_eq, decide_eq_true_eq]
theorem Parse_is {l : List UInt8} (hl : l.length ≤ 1000) : ∃ q, money_Parse.f (bs l) = some q ∧ (if l.head? = some 45 then Reads true l (l.drop 1) q else Reads false l l q) := by
  have fin := fun b r w hw hl => tail_reads b l r w hw hl
  have b1 : ∀ k, k ≤ 3000 → Nat.ble k 9223372036854775807 = true := fun k h => Nat.ble_eq_true_of_le (by omega)
  unfold money_Parse.f
  simp only [bs_size, bs_extract, bs_append, bs_list, bs_toList]
  simp only [texts_list]
  simp only [lists_eq]
  have dot : ∀ (r : List UInt8) (b : Bool), r.length ≤ 1000 → ∃ q, (bif decide ([46] = r) then
      (bif (true && (decide (((1 : Int) ≤ (r.length : Int))))) then (bif (Nat.ble (((r.take 0).drop 0).length + ((r.take r.length).drop 1).length) 9223372036854775807) then
        ((strconv_ParseUint.f (bs (((r.take 0).drop 0) ++ ((r.take r.length).drop 1)), ((10 : Int), (64 : Int)))).bind (fun (x1 : (Int × Bool)) => (bif (!(!x1.2)) then (some ((0 : Int), (4 : Int))) else (((money_signed.f (x1.1, b))).bind fun (x2 : (Int × Int)) => (bif (x2.2 != (0 : Int)) then (some ((0 : Int), (4 : Int))) else (((money_Text.f x2.1)).bind fun (x3 : ByteArray) => (bif (!(decide (x3 = bs l))) then (some ((0 : Int), (4 : Int))) else (some (x2.1, (0 : Int)))))))))) else none) else none)
      else (bif (decide (Lib.indexByte r 46 ≥ (0 : Int))) then (bif ((decide ((0 : Int) ≤ Lib.indexByte r 46)) && (decide (Lib.indexByte r 46 ≤ (r.length : Int)))) then
        (bif ((decide (((0 : Int) ≤ (IntKind.wrap .i64 (Lib.indexByte r 46 + (1 : Int)))))) && (decide (((IntKind.wrap .i64 (Lib.indexByte r 46 + (1 : Int))) ≤ (r.length : Int))))) then
          (bif (Nat.ble (((r.take (Int.toNat (Lib.indexByte r 46))).drop 0).length + ((r.take r.length).drop (Int.toNat (IntKind.wrap .i64 (Lib.indexByte r 46 + (1 : Int))))).length) 9223372036854775807) then
            ((strconv_ParseUint.f (bs (((r.take (Int.toNat (Lib.indexByte r 46))).drop 0) ++ ((r.take r.length).drop (Int.toNat (IntKind.wrap .i64 (Lib.indexByte r 46 + (1 : Int)))))), ((10 : Int), (64 : Int)))).bind (fun (x1 : (Int × Bool)) => (bif (!(!x1.2)) then (some ((0 : Int), (4 : Int))) else (((money_signed.f (x1.1, b))).bind fun (x2 : (Int × Int)) => (bif (x2.2 != (0 : Int)) then (some ((0 : Int), (4 : Int))) else (((money_Text.f x2.1)).bind fun (x3 : ByteArray) => (bif (!(decide (x3 = bs l))) then (some ((0 : Int), (4 : Int))) else (some (x2.1, (0 : Int)))))))))) else none) else none) else none)
        else (bif (Nat.ble (r.length + 0) 9223372036854775807) then ((strconv_ParseUint.f (bs (r ++ []), ((10 : Int), (64 : Int)))).bind (fun (x1 : (Int × Bool)) => (bif (!(!x1.2)) then (some ((0 : Int), (4 : Int))) else (((money_signed.f (x1.1, b))).bind fun (x2 : (Int × Int)) => (bif (x2.2 != (0 : Int)) then (some ((0 : Int), (4 : Int))) else (((money_Text.f x2.1)).bind fun (x3 : ByteArray) => (bif (!(decide (x3 = bs l))) then (some ((0 : Int), (4 : Int))) else (some (x2.1, (0 : Int)))))))))) else none))) = some q ∧ Reads b l r q := by
    intro r b hr
    by_cases hd : [46] = r
    · subst hd
      exact fin b [46] [] (by decide) (by simp)
    · rw [decide_eq_false hd, cond_false]
      have hi := indexByte_lt 46 r
      have hu : ∀ x : Int, 0 ≤ x → x < r.length → IntKind.wrap .i64 (x + 1) = x + 1 := fun x h1 h2 => wrap_i64 (by omega) (by omega)
      by_cases h0 : 0 ≤ Lib.indexByte r 46
      · have hc : cut r = r.take (Lib.indexByte r 46).toNat ++ r.drop ((Lib.indexByte r 46).toNat + 1) := by unfold cut; rw [if_pos h0]
        obtain ⟨x, hx⟩ : ∃ x, Lib.indexByte r 46 = x := ⟨_, rfl⟩
        rw [hx] at h0 hi hc ⊢
        have p2 : x ≤ (r.length : Int) := by omega
        have p3 : 0 ≤ x + 1 := by omega
        have p4 : x + 1 ≤ (r.length : Int) := by omega
        rw [hu x h0 hi]
        simp only [ge_iff_le, h0, p2, p3, p4, decide_true, Bool.and_self, cond_true]
        rw [b1 _ (by simp; omega), cond_true]
        refine fin b r _ ?_ ?_
        · rw [hc, List.drop_zero, List.take_length, show (x + 1).toNat = x.toNat + 1 by omega]
        · simp; omega
      · rw [decide_eq_false (show ¬ Lib.indexByte r 46 ≥ 0 from h0), cond_false, b1 _ (by omega), cond_true]
        refine fin b r _ ?_ ?_
        · unfold cut; rw [if_neg h0, List.append_nil]
        · simp; omega
  cases l with
  | nil => exact dot [] false (by simp)
  | cons c r =>
    have h1 : ((c :: r).length : Int) ≥ 1 := by rw [List.length_cons]; omega
    have h2 : (1 : Int) ≤ ((c :: r).length : Int) := h1
    simp only [h1, h2, decide_true, cond_true, Bool.true_and]
    by_cases hc : c = 45
    · subst hc
      simp only [List.head?_cons, if_true]
      have h3 : decide (List.drop 0 (List.take 1 (45 :: r)) = [45]) = true := by simp
      simp only [h3, Bool.not_true, cond_false]
      have := dot r true (by simp at hl; omega)
      simpa using this
    · have hq : ¬ some c = some (45 : UInt8) := by simpa using hc
      simp only [List.head?_cons, Option.some.injEq, hc, if_false]
      have h3 : decide (List.drop 0 (List.take 1 (c :: r)) = [45]) = false := by simp [hc]
      simp only [h3, Bool.not_false, cond_true]
      have := dot (c :: r) false hl
      simp only [h1, h2, decide_true, cond_true, Bool.true_and] at this
      exact this
end Go.Proofs.YtcadnpdhiolmfaaDoor
end
section
set_option linter.unusedVariables false
set_option linter.unusedSimpArgs false
namespace Go.Proofs.YtcadnpdhiolmfaaDoor
open Go Go.Fw
theorem body_cut (n : Nat) : cut (body n) = decP 19 (n / 1000) ++ [dgt (n / 100 % 10), dgt (n / 10 % 10), dgt (n % 10)] := by
  have hd := body_dig n
  have e : body n = (decP 19 (n / 1000) ++ [dgt (n / 100 % 10)]) ++ 46 :: [dgt (n / 10 % 10), dgt (n % 10)] := by unfold body; simp
  obtain ⟨l, hl⟩ : ∃ l, decP 19 (n / 1000) ++ [dgt (n / 100 % 10)] = l := ⟨_, rfl⟩
  rw [hl] at hd e
  have hi := indexByte_skip 46 l [dgt (n / 10 % 10), dgt (n % 10)] fun x hx h => by
    have := hd x hx
    rw [h] at this
    exact absurd this (by decide)
  unfold cut
  rw [e, hi, if_pos (by omega), Int.toNat_natCast, List.take_left' rfl, ← List.drop_drop, List.drop_left' rfl, ← hl]
  simp
theorem body_parse {n : Nat} (hn : n ≤ 9223372036854775808) : Lib.parseUintB 64 (cut (body n)) = .ok n := by
  rw [body_cut]
  unfold Lib.parseUintB
  rw [if_neg (by simp), parse_decP _ 19 (n / 1000) _ (by omega) (by omega) (by omega), parse_dig (by omega) (by omega) (by omega), parse_dig (by omega) (by omega) (by omega), parse_dig (by omega) (by omega) (by omega)]
  show Lib.NumEnd.ok _ = _
  congr 1
  omega
theorem Parse_law {l : List UInt8} (hl : l.length ≤ 1000) : ∃ q, money_Parse.f (bs l) = some q ∧ (q = (0, 4) ∨ ∃ v, Am v ∧ txt v = l ∧ q = (v, 0)) ∧ ∀ v, Am v → txt v = l → q = (v, 0) := by
  obtain ⟨q, h1, h2⟩ := Parse_is hl
  refine ⟨q, h1, ?_, ?_⟩
  · split at h2 <;> exact h2.1
  · intro v hv ht
    subst ht
    obtain ⟨v1, v2⟩ := hv
    by_cases h : v < 0
    · have e : txt v = 45 :: body v.natAbs := by unfold txt; rw [if_pos h]; rfl
      rw [if_pos (by rw [e]; rfl)] at h2
      have e2 : sgn true v.natAbs = v := by show -(v.natAbs : Int) = v; omega
      have := h2.2 v.natAbs (by rw [e, List.drop_one, List.tail_cons, body_parse (by omega)])
      rw [e2] at this
      exact this ⟨v1, v2⟩ rfl
    · have e : txt v = body v.natAbs := by unfold txt; rw [if_neg h]; rfl
      rw [if_neg (by rw [e]; exact body_head _)] at h2
      have e2 : sgn false v.natAbs = v := by show (v.natAbs : Int) = v; omega
      have := h2.2 v.natAbs (by rw [e, body_parse (by omega)])
      rw [e2] at this
      exact this ⟨v1, v2⟩ rfl
end Go.Proofs.YtcadnpdhiolmfaaDoor
end
section
set_option linter.unusedVariables false
set_option maxRecDepth 100000
namespace Go.Proofs.YtcadnpdhiolmfaaDoor
open Go Go.Fw
abbrev chart_Parse.As : Shs := (.cons (.x .s) .nil)
abbrev chart_Parse.m : Back := [(false, T_api_Account), (false, (.i .i64))]
noncomputable abbrev chart_Parse.H : HK := hk P G0 E0 J0 [chart_May.row, chart_letters.row] noLoops 4
theorem chart_Parse.rows : TabOK P G0 (tabF [chart_May.row, chart_letters.row]) := rows_ok (ws := [chart_May.row, chart_letters.row]) ⟨chart_May.row_ok, ⟨chart_letters.row_ok, trivial⟩⟩
theorem chart_Parse.hok : HKOK P chart_Parse.H := hk_ok e0_ok j0_ok chart_Parse.rows (fun g n => noLoops_ok g n) 4
noncomputable abbrev chart_Parse.sh3 : SSh := ⟨[(0, (.x .s)), (2, (.pt 0 0)), (7, (.x (.g (.p .s (.p .s (.p .s (.p .s .s))))))), (8, (.x (.i .i64)))], [.box (.cons (.x (.i .i64)) (.cons (.x .s) .nil))]⟩
noncomputable abbrev chart_Parse.os3 : PEnds := [(.ret, ⟨[(2, (.pt 0 0)), (3, (.x (.i .i64)))], [.box (.cons (.x (.i .i64)) (.cons (.x .s) .nil))]⟩), ((.exit 0), ⟨[(2, (.pt 0 0))], [.box (.cons (.x (.i .i64)) (.cons (.x .s) .nil))]⟩)]
noncomputable def chart_Parse.t3 (s : (ByteArray × ((ByteArray × (ByteArray × (ByteArray × (ByteArray × ByteArray)))) × (Int × (Int × ByteArray))))) : Option ((ByteArray × ((ByteArray × (ByteArray × (ByteArray × (ByteArray × ByteArray)))) × (Int × (Int × ByteArray)))) ⊕ ((Int × (Int × ByteArray)) ⊕ (Int × ByteArray))) := (bif (decide ((s.2.2.1 < (5 : Int)))) then (bif (s.2.2.1 == (0 : Int)) then (bif ((ByteArray.toList s.1) == []) then (some (.inl (s.1, (s.2.1, ((IntKind.wrap .i64 (s.2.2.1 + (1 : Int))), s.2.2.2))))) else (bif (true && (decide (((1 : Int) ≤ (s.1.size : Int))))) then (bif (!((ByteArray.toList s.2.1.1) == (ByteArray.toList (ByteArray.extract s.1 0 1)))) then (some (.inl (s.1, (s.2.1, ((IntKind.wrap .i64 (s.2.2.1 + (1 : Int))), s.2.2.2))))) else (bif (true && (decide (((1 : Int) ≤ (s.1.size : Int))))) then (((chart_May.f (s.2.2.1, (ByteArray.extract s.1 1 s.1.size)))).bind fun x5 => (bif x5 then (some (.inr (.inl ((0 : Int), (s.2.2.1, (ByteArray.extract s.1 1 s.1.size)))))) else (some (.inl (s.1, (s.2.1, ((IntKind.wrap .i64 (s.2.2.1 + (1 : Int))), s.2.2.2))))))) else none)) else none)) else (bif (s.2.2.1 == (1 : Int)) then (bif ((ByteArray.toList s.1) == []) then (some (.inl (s.1, (s.2.1, ((IntKind.wrap .i64 (s.2.2.1 + (1 : Int))), s.2.2.2))))) else (bif (true && (decide (((1 : Int) ≤ (s.1.size : Int))))) then (bif (!((ByteArray.toList s.2.1.2.1) == (ByteArray.toList (ByteArray.extract s.1 0 1)))) then (some (.inl (s.1, (s.2.1, ((IntKind.wrap .i64 (s.2.2.1 + (1 : Int))), s.2.2.2))))) else (bif (true && (decide (((1 : Int) ≤ (s.1.size : Int))))) then (((chart_May.f (s.2.2.1, (ByteArray.extract s.1 1 s.1.size)))).bind fun x5 => (bif x5 then (some (.inr (.inl ((0 : Int), (s.2.2.1, (ByteArray.extract s.1 1 s.1.size)))))) else (some (.inl (s.1, (s.2.1, ((IntKind.wrap .i64 (s.2.2.1 + (1 : Int))), s.2.2.2))))))) else none)) else none)) else (bif (s.2.2.1 == (2 : Int)) then (bif ((ByteArray.toList s.1) == []) then (some (.inl (s.1, (s.2.1, ((IntKind.wrap .i64 (s.2.2.1 + (1 : Int))), s.2.2.2))))) else (bif (true && (decide (((1 : Int) ≤ (s.1.size : Int))))) then (bif (!((ByteArray.toList s.2.1.2.2.1) == (ByteArray.toList (ByteArray.extract s.1 0 1)))) then (some (.inl (s.1, (s.2.1, ((IntKind.wrap .i64 (s.2.2.1 + (1 : Int))), s.2.2.2))))) else (bif (true && (decide (((1 : Int) ≤ (s.1.size : Int))))) then (((chart_May.f (s.2.2.1, (ByteArray.extract s.1 1 s.1.size)))).bind fun x5 => (bif x5 then (some (.inr (.inl ((0 : Int), (s.2.2.1, (ByteArray.extract s.1 1 s.1.size)))))) else (some (.inl (s.1, (s.2.1, ((IntKind.wrap .i64 (s.2.2.1 + (1 : Int))), s.2.2.2))))))) else none)) else none)) else (bif (s.2.2.1 == (3 : Int)) then (bif ((ByteArray.toList s.1) == []) then (some (.inl (s.1, (s.2.1, ((IntKind.wrap .i64 (s.2.2.1 + (1 : Int))), s.2.2.2))))) else (bif (true && (decide (((1 : Int) ≤ (s.1.size : Int))))) then (bif (!((ByteArray.toList s.2.1.2.2.2.1) == (ByteArray.toList (ByteArray.extract s.1 0 1)))) then (some (.inl (s.1, (s.2.1, ((IntKind.wrap .i64 (s.2.2.1 + (1 : Int))), s.2.2.2))))) else (bif (true && (decide (((1 : Int) ≤ (s.1.size : Int))))) then (((chart_May.f (s.2.2.1, (ByteArray.extract s.1 1 s.1.size)))).bind fun x5 => (bif x5 then (some (.inr (.inl ((0 : Int), (s.2.2.1, (ByteArray.extract s.1 1 s.1.size)))))) else (some (.inl (s.1, (s.2.1, ((IntKind.wrap .i64 (s.2.2.1 + (1 : Int))), s.2.2.2))))))) else none)) else none)) else (bif (s.2.2.1 == (4 : Int)) then (bif ((ByteArray.toList s.1) == []) then (some (.inl (s.1, (s.2.1, ((IntKind.wrap .i64 (s.2.2.1 + (1 : Int))), s.2.2.2))))) else (bif (true && (decide (((1 : Int) ≤ (s.1.size : Int))))) then (bif (!((ByteArray.toList s.2.1.2.2.2.2) == (ByteArray.toList (ByteArray.extract s.1 0 1)))) then (some (.inl (s.1, (s.2.1, ((IntKind.wrap .i64 (s.2.2.1 + (1 : Int))), s.2.2.2))))) else (bif (true && (decide (((1 : Int) ≤ (s.1.size : Int))))) then (((chart_May.f (s.2.2.1, (ByteArray.extract s.1 1 s.1.size)))).bind fun x5 => (bif x5 then (some (.inr (.inl ((0 : Int), (s.2.2.1, (ByteArray.extract s.1 1 s.1.size)))))) else (some (.inl (s.1, (s.2.1, ((IntKind.wrap .i64 (s.2.2.1 + (1 : Int))), s.2.2.2))))))) else none)) else none)) else none))))) else (some (.inr (.inr s.2.2.2))))
theorem chart_Parse.t3_ok : ∀ s : Vals chart_Parse.sh3.tys, turnK P chart_Parse.H (lp []) (bodyAt (codeOf P 27) 3) 0 chart_Parse.sh3 chart_Parse.os3 s some = chart_Parse.t3 s := fun s => by kernel_rfl
noncomputable def chart_Parse.l3 : (ByteArray × ((ByteArray × (ByteArray × (ByteArray × (ByteArray × ByteArray)))) × (Int × (Int × ByteArray)))) → Option ((Int × (Int × ByteArray)) ⊕ (Int × ByteArray)) := rounds chart_Parse.t3
noncomputable def chart_Parse.f (a : ByteArray) : Option ((Int × ByteArray) × Int) := (((chart_Parse.l3 (a, (((bs []), ((bs [67]), ((bs [65]), ((bs [72]), (bs [68]))))), ((0 : Int), ((0 : Int), (bs []))))))).bind fun x1 => (match x1 with | .inl x2 => (some (x2.2, x2.1)) | .inr x2 => (some (((0 : Int), (bs [])), (4 : Int)))))
theorem chart_Parse.ok : ∀ a : Vals chart_Parse.As.tys, fnK P chart_Parse.H (lp [(3, (NodeT.summ ⟨chart_Parse.sh3, chart_Parse.os3, chart_Parse.l3⟩ 0))]) 27 chart_Parse.As chart_Parse.m a some = chart_Parse.f a := fun a => by kernel_rfl
noncomputable abbrev chart_Parse.row : Row := fnRow 27 chart_Parse.As chart_Parse.m chart_Parse.f
theorem chart_Parse.row_ok : RowOK P G0 chart_Parse.row := row_told chart_Parse.hok (lp_of (l := [(3, (NodeT.summ ⟨chart_Parse.sh3, chart_Parse.os3, chart_Parse.l3⟩ 0))]) ⟨(loop_sum chart_Parse.hok (by kernel_rfl) (by kernel_rfl) (l := []) trivial chart_Parse.sh3 chart_Parse.os3 (by kernel_rfl) chart_Parse.t3 chart_Parse.t3_ok), trivial⟩) (fun _ => rfl) chart_Parse.ok
abbrev bursarref11_Parse.As : Shs := (.cons (.x .s) .nil)
abbrev bursarref11_Parse.m : Back := [(false, T_api_Account), (false, .b)]
noncomputable abbrev bursarref11_Parse.H : HK := hk P G0 E0 J0 [bursarref11_Name.row] noLoops 4
theorem bursarref11_Parse.rows : TabOK P G0 (tabF [bursarref11_Name.row]) := rows_ok (ws := [bursarref11_Name.row]) ⟨bursarref11_Name.row_ok, trivial⟩
theorem bursarref11_Parse.hok : HKOK P bursarref11_Parse.H := hk_ok e0_ok j0_ok bursarref11_Parse.rows (fun g n => noLoops_ok g n) 4
noncomputable abbrev bursarref11_Parse.sh3 : SSh := ⟨[(0, (.x .s)), (2, (.pt 0 0)), (4, (.x (.i .i64)))], [.box (.cons (.x (.i .i64)) (.cons (.x .s) .nil))]⟩
noncomputable abbrev bursarref11_Parse.os3 : PEnds := [(.ret, ⟨[(2, (.pt 0 0)), (3, (.x .b))], [.box (.cons (.x (.i .i64)) (.cons (.x .s) .nil))]⟩), ((.exit 0), ⟨[(2, (.pt 0 0))], [.box (.cons (.x (.i .i64)) (.cons (.x .s) .nil))]⟩)]
noncomputable def bursarref11_Parse.t3 (s : (ByteArray × (Int × (Int × ByteArray)))) : Option ((ByteArray × (Int × (Int × ByteArray))) ⊕ ((Bool × (Int × ByteArray)) ⊕ (Int × ByteArray))) := (bif (decide ((s.2.1 < (5 : Int)))) then (bif (!((ByteArray.toList s.1) == [])) then (bif (true && (decide (((1 : Int) ≤ (s.1.size : Int))))) then (((bursarref11_Name.f (s.2.1, (ByteArray.extract s.1 1 s.1.size)))).bind fun x4 => (bif x4.2 then (bif ((ByteArray.toList x4.1) == (ByteArray.toList s.1)) then (some (.inr (.inl (true, (s.2.1, (ByteArray.extract s.1 1 s.1.size)))))) else (some (.inl (s.1, ((IntKind.wrap .i64 (s.2.1 + (1 : Int))), s.2.2))))) else (some (.inl (s.1, ((IntKind.wrap .i64 (s.2.1 + (1 : Int))), s.2.2)))))) else none) else (some (.inr (.inr s.2.2)))) else (some (.inr (.inr s.2.2))))
theorem bursarref11_Parse.t3_ok : ∀ s : Vals bursarref11_Parse.sh3.tys, turnK P bursarref11_Parse.H (lp []) (bodyAt (codeOf P 30) 3) 0 bursarref11_Parse.sh3 bursarref11_Parse.os3 s some = bursarref11_Parse.t3 s := fun s => by kernel_rfl
noncomputable def bursarref11_Parse.l3 : (ByteArray × (Int × (Int × ByteArray))) → Option ((Bool × (Int × ByteArray)) ⊕ (Int × ByteArray)) := rounds bursarref11_Parse.t3
noncomputable def bursarref11_Parse.f (a : ByteArray) : Option ((Int × ByteArray) × Bool) := (((bursarref11_Parse.l3 (a, ((1 : Int), ((0 : Int), (bs [])))))).bind fun x1 => (match x1 with | .inl x2 => (some (x2.2, x2.1)) | .inr x2 => (some (((0 : Int), (bs [])), false))))
theorem bursarref11_Parse.ok : ∀ a : Vals bursarref11_Parse.As.tys, fnK P bursarref11_Parse.H (lp [(3, (NodeT.summ ⟨bursarref11_Parse.sh3, bursarref11_Parse.os3, bursarref11_Parse.l3⟩ 0))]) 30 bursarref11_Parse.As bursarref11_Parse.m a some = bursarref11_Parse.f a := fun a => by kernel_rfl
noncomputable abbrev bursarref11_Parse.row : Row := fnRow 30 bursarref11_Parse.As bursarref11_Parse.m bursarref11_Parse.f
theorem bursarref11_Parse.row_ok : RowOK P G0 bursarref11_Parse.row := row_told bursarref11_Parse.hok (lp_of (l := [(3, (NodeT.summ ⟨bursarref11_Parse.sh3, bursarref11_Parse.os3, bursarref11_Parse.l3⟩ 0))]) ⟨(loop_sum bursarref11_Parse.hok (by kernel_rfl) (by kernel_rfl) (l := []) trivial bursarref11_Parse.sh3 bursarref11_Parse.os3 (by kernel_rfl) bursarref11_Parse.t3 bursarref11_Parse.t3_ok), trivial⟩) (fun _ => rfl) bursarref11_Parse.ok
end Go.Proofs.YtcadnpdhiolmfaaDoor
end
section
namespace Go.Proofs
open Go.Shelf
def Tryd.laysC172_ren : Go.Shelf.Ren := ⟨fun | 172 => 25 | 244 => 49 | 245 => 50 | 247 => 64 | 279 => 65 | 280 => 66 | 281 => 67 | 282 => 68 | 287 => 71 | 316 => 81 | 171 => 15 | 205 => 82 | 321 => 88 | 322 => 89 | 243 => 37 | 246 => 57 | 283 => 72 | 284 => 73 | 285 => 74 | 286 => 75 | 129 => 91 | 317 => 90 | 318 => 92 | 319 => 93 | 320 => 94 | 337 => 98 | 338 => 99 | n => n, fun | 9 => 9 | 3 => 3 | 75 => 64 | 76 => 65 | 4 => 4 | 5 => 5 | 167 => 103 | 37 => 97 | 0 => 0 | 85 => 104 | 2 => 2 | 168 => 106 | 53 => 79 | 175 => 92 | 46 => 88 | 210 => 121 | 127 => 131 | 145 => 134 | 143 => 132 | 21 => 21 | 171 => 109 | 173 => 112 | 212 => 126 | 51 => 127 | 20 => 20 | 213 => 128 | 232 => 142 | 233 => 143 | 80 => 144 | n => n, fun | 15 => 0 | 16 => 1 | 17 => 3 | 18 => 6 | 19 => 7 | n => n⟩
theorem Tryd.laysC172 : Go.Proofs.LaysC.n172 Tryd.prog Tryd.laysC172_ren := {
  mixed := by kernel_rfl
  f129 := Tryd.func91.trans (congrArg some (by kernel_rfl))
  f171 := Tryd.func15.trans (congrArg some (by kernel_rfl))
  f172 := Tryd.func25.trans (congrArg some (by kernel_rfl))
  f205 := Tryd.func82.trans (congrArg some (by kernel_rfl))
  f243 := Tryd.func37.trans (congrArg some (by kernel_rfl))
  f244 := Tryd.func49.trans (congrArg some (by kernel_rfl))
  f245 := Tryd.func50.trans (congrArg some (by kernel_rfl))
  f246 := Tryd.func57.trans (congrArg some (by kernel_rfl))
  f247 := Tryd.func64.trans (congrArg some (by kernel_rfl))
  f279 := Tryd.func65.trans (congrArg some (by kernel_rfl))
  f280 := Tryd.func66.trans (congrArg some (by kernel_rfl))
  f281 := Tryd.func67.trans (congrArg some (by kernel_rfl))
  f282 := Tryd.func68.trans (congrArg some (by kernel_rfl))
  f283 := Tryd.func72.trans (congrArg some (by kernel_rfl))
  f284 := Tryd.func73.trans (congrArg some (by kernel_rfl))
  f285 := Tryd.func74.trans (congrArg some (by kernel_rfl))
  f286 := Tryd.func75.trans (congrArg some (by kernel_rfl))
  f287 := Tryd.func71.trans (congrArg some (by kernel_rfl))
  f316 := Tryd.func81.trans (congrArg some (by kernel_rfl))
  f317 := Tryd.func90.trans (congrArg some (by kernel_rfl))
  f318 := Tryd.func92.trans (congrArg some (by kernel_rfl))
  f319 := Tryd.func93.trans (congrArg some (by kernel_rfl))
  f320 := Tryd.func94.trans (congrArg some (by kernel_rfl))
  f321 := Tryd.func88.trans (congrArg some (by kernel_rfl))
  f322 := Tryd.func89.trans (congrArg some (by kernel_rfl))
  f337 := Tryd.func98.trans (congrArg some (by kernel_rfl))
  f338 := Tryd.func99.trans (congrArg some (by kernel_rfl))
  t0 := Tryd.underlying0
  a0 := Tryd.isAgg0
  z0 := Tryd.sizeOf0
  v0 := Tryd.zeroValue0
  t2 := Tryd.underlying2
  a2 := Tryd.isAgg2
  z2 := Tryd.sizeOf2
  v2 := Tryd.zeroValue2
  t3 := Tryd.underlying3
  a3 := Tryd.isAgg3
  z3 := Tryd.sizeOf3
  v3 := Tryd.zeroValue3
  t4 := Tryd.underlying4
  a4 := Tryd.isAgg4
  z4 := Tryd.sizeOf4
  v4 := Tryd.zeroValue4
  t5 := Tryd.underlying5
  a5 := Tryd.isAgg5
  z5 := Tryd.sizeOf5
  v5 := Tryd.zeroValue5
  t9 := Tryd.underlying9
  a9 := Tryd.isAgg9
  z9 := Tryd.sizeOf9
  v9 := Tryd.zeroValue9
  t20 := Tryd.underlying20
  a20 := Tryd.isAgg20
  z20 := Tryd.sizeOf20
  v20 := Tryd.zeroValue20
  t21 := Tryd.underlying21
  a21 := Tryd.isAgg21
  z21 := Tryd.sizeOf21
  v21 := Tryd.zeroValue21
  t37 := Tryd.underlying97
  a37 := Tryd.isAgg97
  z37 := Tryd.sizeOf97
  v37 := Tryd.zeroValue97
  t46 := Tryd.underlying88
  a46 := Tryd.isAgg88
  z46 := Tryd.sizeOf88
  v46 := Tryd.zeroValue88
  t51 := Tryd.underlying127
  a51 := Tryd.isAgg127
  z51 := Tryd.sizeOf127
  v51 := Tryd.zeroValue127
  t53 := Tryd.underlying79
  a53 := Tryd.isAgg79
  z53 := Tryd.sizeOf79
  v53 := Tryd.zeroValue79
  t75 := Tryd.underlying64
  a75 := Tryd.isAgg64
  z75 := Tryd.sizeOf64
  v75 := Tryd.zeroValue64
  t76 := Tryd.underlying65
  a76 := Tryd.isAgg65
  z76 := Tryd.sizeOf65
  v76 := Tryd.zeroValue65
  t85 := Tryd.underlying104
  a85 := Tryd.isAgg104
  z85 := Tryd.sizeOf104
  v85 := Tryd.zeroValue104
  t127 := Tryd.underlying131
  a127 := Tryd.isAgg131
  z127 := Tryd.sizeOf131
  v127 := Tryd.zeroValue131
  t143 := Tryd.underlying132
  a143 := Tryd.isAgg132
  z143 := Tryd.sizeOf132
  v143 := Tryd.zeroValue132
  t145 := Tryd.underlying134
  a145 := Tryd.isAgg134
  z145 := Tryd.sizeOf134
  v145 := Tryd.zeroValue134
  t167 := Tryd.underlying103
  a167 := Tryd.isAgg103
  z167 := Tryd.sizeOf103
  v167 := Tryd.zeroValue103
  t168 := Tryd.underlying106
  a168 := Tryd.isAgg106
  z168 := Tryd.sizeOf106
  v168 := Tryd.zeroValue106
  t171 := Tryd.underlying109
  a171 := Tryd.isAgg109
  z171 := Tryd.sizeOf109
  v171 := Tryd.zeroValue109
  t173 := Tryd.underlying112
  a173 := Tryd.isAgg112
  z173 := Tryd.sizeOf112
  v173 := Tryd.zeroValue112
  t175 := Tryd.underlying92
  a175 := Tryd.isAgg92
  z175 := Tryd.sizeOf92
  v175 := Tryd.zeroValue92
  t210 := Tryd.underlying121
  a210 := Tryd.isAgg121
  z210 := Tryd.sizeOf121
  v210 := Tryd.zeroValue121
  t212 := Tryd.underlying126
  a212 := Tryd.isAgg126
  z212 := Tryd.sizeOf126
  v212 := Tryd.zeroValue126
  t213 := Tryd.underlying128
  a213 := Tryd.isAgg128
  z213 := Tryd.sizeOf128
  t232 := Tryd.underlying142
  a232 := Tryd.isAgg142
  z232 := Tryd.sizeOf142
  v232 := Tryd.zeroValue142
  t233 := Tryd.underlying143
  a233 := Tryd.isAgg143
  z233 := Tryd.sizeOf143
  v233 := Tryd.zeroValue143
  g15 := by kernel_rfl
  g16 := by kernel_rfl
  g17 := by kernel_rfl
  g18 := by kernel_rfl
  g19 := by kernel_rfl
  t80 := Tryd.underlying144
  a80 := Tryd.isAgg144
  z80 := Tryd.sizeOf144
  v80 := Tryd.zeroValue144
  i0 := by kernel_rfl
  i2 := by kernel_rfl
  i3 := by kernel_rfl
  i4 := by kernel_rfl
  i5 := by kernel_rfl
  i9 := by kernel_rfl
  i20 := by kernel_rfl
  i21 := by kernel_rfl
  i37 := by kernel_rfl
  i46 := by kernel_rfl
  i51 := by kernel_rfl
  i53 := by kernel_rfl
  i75 := by kernel_rfl
  i76 := by kernel_rfl
  i80 := by kernel_rfl
  i85 := by kernel_rfl
  i127 := by kernel_rfl
  i143 := by kernel_rfl
  i145 := by kernel_rfl
  i167 := by kernel_rfl
  i168 := by kernel_rfl
  i171 := by kernel_rfl
  i173 := by kernel_rfl
  i175 := by kernel_rfl
  i210 := by kernel_rfl
  i212 := by kernel_rfl
  i232 := by kernel_rfl
  i233 := by kernel_rfl
  m15 := by kernel_rfl
  m16 := by kernel_rfl
  m17 := by kernel_rfl
  m18 := by kernel_rfl
  m19 := by kernel_rfl
  c0 := by kernel_rfl
  c2 := by kernel_rfl
  c3 := by kernel_rfl
  c4 := by kernel_rfl
  c5 := by kernel_rfl
  c9 := by kernel_rfl
  c20 := by kernel_rfl
  c21 := by kernel_rfl
  c37 := by kernel_rfl
  c46 := by kernel_rfl
  c51 := by kernel_rfl
  c53 := by kernel_rfl
  c75 := by kernel_rfl
  c76 := by kernel_rfl
  c80 := by kernel_rfl
  c85 := by kernel_rfl
  c127 := by kernel_rfl
  c143 := by kernel_rfl
  c145 := by kernel_rfl
  c167 := by kernel_rfl
  c168 := by kernel_rfl
  c171 := by kernel_rfl
  c173 := by kernel_rfl
  c175 := by kernel_rfl
  c210 := by kernel_rfl
  c212 := by kernel_rfl
  c213 := by kernel_rfl
  c232 := by kernel_rfl
  c233 := by kernel_rfl }
end Go.Proofs
end
section
set_option linter.unusedVariables false
namespace Go.Proofs.YtcadnpdhiolmfaaDoor
open Go Go.Fw Go.RowKit Go.Shelf
def atoiU (l : List UInt8) : Int × Bool := match Lib.atoiAll l with
  | .ok v => (v, false)
  | .«syntax» => (0, true)
  | .range => (Lib.atoiSat l, true)
abbrev strconv_Atoi.As : Shs := .cons (.x .s) .nil
abbrev strconv_Atoi.m : Back := [(false, .i .i64), (false, .e)]
abbrev strconv_Atoi.f (a : ByteArray) : Option (Int × Bool) := bif decide (a.size ≤ 281474976710656) then some (atoiU a.data.toList) else none
noncomputable abbrev strconv_Atoi.row : Row := fnRow 25 strconv_Atoi.As strconv_Atoi.m strconv_Atoi.f
theorem atoi_bytes_below (w : World) (t : TypeId) (s : ByteArray) : Below w.heap.size w (Lib.bytesWorld w t s) := by
  unfold Lib.bytesWorld World.freeze
  rw [if_neg (by decide)]
  refine ⟨rfl, rfl, rfl, by simp, fun k hk => ?_⟩
  show ((w.heap.push _).modify _ _)[k]? = _
  rw [Array.getElem?_modify, if_neg (by show ¬ w.heap.size = k; omega), Array.getElem?_push, if_neg (by omega)]
theorem strconv_Atoi.row_ok : RowOK P G1 strconv_Atoi.row := by
  have key : ∀ (ds : List D) (a : ByteArray) (q : Int × Bool), decArgs strconv_Atoi.As ds = some a → strconv_Atoi.f a = some q → Fw.Enters P 25 ∧ PCall P G1 25 ds (.tp [.i .i64 q.1, .er q.2]) := by
    intro ds a q ha hq
    refine ⟨ent_of Tryd.func25 (by kernel_rfl) (by kernel_rfl), ?_⟩
    have hds := (decArgs_argD ha).symm
    refine PCall.coe (ds' := argD strconv_Atoi.As a) ?_ (by rw [← hds]; exact coeA_len) fun w I f hf => by rw [← hds]; exact coeA_rel hf
    refine pcall_below fun w I K vs hg hsz hr => ?_
    have h0 := hr 0 (.s a) rfl
    have hvs : vs = #[.string a] := by
      have hs : vs.size = 1 := hsz
      rw [Array.getD_eq_getD_getElem?, Array.getElem?_eq_getElem (by omega)] at h0
      simp only [Option.getD_some] at h0
      refine Array.ext (by simpa using hs) fun i hi hi' => ?_
      match i, hi with
      | 0, _ => cases h : vs[0] <;> rw [h] at h0 <;> cases h0; rfl
      | i + 1, hi => omega
    subst hvs
    unfold strconv_Atoi.f at hq
    obtain ⟨hb, hq⟩ := cond_some hq
    simp only [decide_eq_true_eq] at hb
    injection hq with hq
    subst hq
    unfold atoiU
    have tup : ∀ (w' : World) (n : Int) (b : Bool) (v : Value), RelD w' I (.er b) v → RelX w' I K (.tp [.i .i64 n, .er b]) (.tuple #[.int .i64 n, v]) := fun w' n b v hv => ⟨_, rfl, RelD.i .i64 n, ⟨hv, trivial, fun b h => by cases b <;> cases h⟩, fun b h => by cases h⟩
    cases hp : Lib.atoiAll a.data.toList with
    | ok u =>
      refine (Any.strconv_Atoi_ok Tryd.laysC172 a (by omega) u hp w).mono ?_
      rintro e w' ⟨rfl, hw⟩
      refine ⟨_, rfl, ?_, tup w' u false _ .er0⟩
      rcases hw with rfl | ⟨t, rfl⟩
      · exact .refl _ _
      · exact atoi_bytes_below _ _ _
    | «syntax» =>
      obtain ⟨tp, p, hv⟩ := err_of_glob (P := P) hg (g := 0) (name := "strconv.ErrSyntax") (by kernel_rfl) rfl
      refine (Any.strconv_Atoi_syntax_var Tryd.laysC172 a hb hp tp p w hv).mono ?_
      rintro e w' ⟨N, rfl, _, _, hb⟩
      exact ⟨_, rfl, hb, tup w' 0 true _ (.er1 _ _)⟩
    | range =>
      obtain ⟨tp, p, hv⟩ := err_of_glob (P := P) hg (g := 1) (name := "strconv.ErrRange") (by kernel_rfl) rfl
      refine (Any.strconv_Atoi_range_var Tryd.laysC172 a hb hp tp p w hv).mono ?_
      rintro e w' ⟨N, rfl, _, _, hb⟩
      exact ⟨_, rfl, hb, tup w' _ true _ (.er1 _ _)⟩
  exact fun ds a q => key ds a q
end Go.Proofs.YtcadnpdhiolmfaaDoor
end
section
set_option linter.unusedVariables false
set_option maxRecDepth 100000
namespace Go.Proofs.YtcadnpdhiolmfaaDoor
open Go Go.Fw
abbrev entry_Parse.As : Shs := (.cons (.x .s) .nil)
abbrev entry_Parse.m : Back := [(false, T_api_Entry), (false, (.i .i64))]
noncomputable abbrev entry_Parse.H : HK := hk P G1 E0 J0 [entry_Text.row, strings_Split.row, strconv_Atoi.row, chart_Parse.row, money_Parse.row] noLoops 4
theorem entry_Parse.rows : TabOK P G1 (tabF [entry_Text.row, strings_Split.row, strconv_Atoi.row, chart_Parse.row, money_Parse.row]) := rows_ok (ws := [entry_Text.row, strings_Split.row, strconv_Atoi.row, chart_Parse.row, money_Parse.row]) ⟨(entry_Text.row_ok.more g01), ⟨(strings_Split.row_ok.more g01), ⟨strconv_Atoi.row_ok, ⟨(chart_Parse.row_ok.more g01), ⟨money_Parse.row_ok, trivial⟩⟩⟩⟩⟩
theorem entry_Parse.hok : HKOK P entry_Parse.H := hk_ok e0_ok j0_ok entry_Parse.rows (fun g n => noLoops_ok g n) 4
noncomputable abbrev entry_Parse.sh9 : SSh := ⟨[(0, (.x .s)), (2, (.pt 0 0)), (5, (.pt 1 0)), (36, (.x (.l .s))), (37, (.x (.i .i64))), (38, (.x (.i .i64)))], [.box (.cons (.x (.i .i64)) (.cons (.x .s) (.cons (.own 2 3) .nil))), .box (.cons (.x (.i .i64)) (.cons (.x .s) (.cons (.own 3 3) .nil))), .arrN T_api_Line, .arrN T_api_Line]⟩
noncomputable abbrev entry_Parse.os9 : PEnds := [((.exit 0), ⟨[(0, (.x .s)), (2, (.pt 0 0)), (5, (.pt 1 0))], [.box (.cons (.x (.i .i64)) (.cons (.x .s) (.cons (.own 2 3) .nil))), .box (.cons (.x (.i .i64)) (.cons (.x .s) (.cons (.own 3 3) .nil))), .arrN T_api_Line, .arrN T_api_Line]⟩)]
noncomputable def entry_Parse.t9 (s : (ByteArray × ((List ByteArray) × (Int × (Int × (Int × (ByteArray × (Int × (ByteArray × ((List ((Int × ByteArray) × Int)) × (List ((Int × ByteArray) × Int)))))))))))) : Option ((ByteArray × ((List ByteArray) × (Int × (Int × (Int × (ByteArray × (Int × (ByteArray × ((List ((Int × ByteArray) × Int)) × (List ((Int × ByteArray) × Int))))))))))) ⊕ ((ByteArray × (Int × (ByteArray × (Int × (ByteArray × ((List ((Int × ByteArray) × Int)) × (List ((Int × ByteArray) × Int)))))))))) := (bif (decide ((s.2.2.2.1 < s.2.2.1))) then (bif ((decide (((0 : Int) ≤ s.2.2.2.1))) && (decide ((s.2.2.2.1 < ((List.length s.2.1) : Int))))) then (bif ([(61 : UInt8)] == (ByteArray.toList (List.getD s.2.1 (Int.toNat s.2.2.2.1) (bs [])))) then (bif (true && (decide (((1 : Int) ≤ ((List.getD s.2.1 (Int.toNat s.2.2.2.1) (bs [])).size : Int))))) then (((chart_Parse.f (ByteArray.extract (List.getD s.2.1 (Int.toNat s.2.2.2.1) (bs [])) 0 0))).bind fun x12 => (((money_Parse.f (ByteArray.extract (List.getD s.2.1 (Int.toNat s.2.2.2.1) (bs [])) 1 (List.getD s.2.1 (Int.toNat s.2.2.2.1) (bs [])).size))).bind fun x13 => (bif ((true && (Nat.ble (((List.length s.2.2.2.2.2.2.2.2.2) + (List.length ((x12.1, x13.1) :: []))) * 32) 140737488355328)) && (Nat.ble ((List.length s.2.2.2.2.2.2.2.2.2) + (List.length ((x12.1, x13.1) :: []))) 140737488355328)) then (some (.inl (s.1, (s.2.1, (s.2.2.1, ((IntKind.wrap .i64 (s.2.2.2.1 + (1 : Int))), (s.2.2.2.2.1, (s.2.2.2.2.2.1, (s.2.2.2.2.2.2.1, (s.2.2.2.2.2.2.2.1, (s.2.2.2.2.2.2.2.2.1, (s.2.2.2.2.2.2.2.2.2 ++ ((x12.1, x13.1) :: []))))))))))))) else none))) else none) else (bif (decide (((Go.Lib.indexByte (Array.toList (ByteArray.data (List.getD s.2.1 (Int.toNat s.2.2.2.1) (bs [])))) (61 : UInt8)) ≥ (0 : Int)))) then (bif ((decide (((0 : Int) ≤ (Go.Lib.indexByte (Array.toList (ByteArray.data (List.getD s.2.1 (Int.toNat s.2.2.2.1) (bs [])))) (61 : UInt8))))) && (decide (((Go.Lib.indexByte (Array.toList (ByteArray.data (List.getD s.2.1 (Int.toNat s.2.2.2.1) (bs [])))) (61 : UInt8)) ≤ ((List.getD s.2.1 (Int.toNat s.2.2.2.1) (bs [])).size : Int))))) then (bif ((decide (((0 : Int) ≤ (IntKind.wrap .i64 ((Go.Lib.indexByte (Array.toList (ByteArray.data (List.getD s.2.1 (Int.toNat s.2.2.2.1) (bs [])))) (61 : UInt8)) + (1 : Int)))))) && (decide (((IntKind.wrap .i64 ((Go.Lib.indexByte (Array.toList (ByteArray.data (List.getD s.2.1 (Int.toNat s.2.2.2.1) (bs [])))) (61 : UInt8)) + (1 : Int))) ≤ ((List.getD s.2.1 (Int.toNat s.2.2.2.1) (bs [])).size : Int))))) then (((chart_Parse.f (ByteArray.extract (List.getD s.2.1 (Int.toNat s.2.2.2.1) (bs [])) 0 (Int.toNat (Go.Lib.indexByte (Array.toList (ByteArray.data (List.getD s.2.1 (Int.toNat s.2.2.2.1) (bs [])))) (61 : UInt8)))))).bind fun x12 => (((money_Parse.f (ByteArray.extract (List.getD s.2.1 (Int.toNat s.2.2.2.1) (bs [])) (Int.toNat (IntKind.wrap .i64 ((Go.Lib.indexByte (Array.toList (ByteArray.data (List.getD s.2.1 (Int.toNat s.2.2.2.1) (bs [])))) (61 : UInt8)) + (1 : Int)))) (List.getD s.2.1 (Int.toNat s.2.2.2.1) (bs [])).size))).bind fun x13 => (bif ((true && (Nat.ble (((List.length s.2.2.2.2.2.2.2.2.2) + (List.length ((x12.1, x13.1) :: []))) * 32) 140737488355328)) && (Nat.ble ((List.length s.2.2.2.2.2.2.2.2.2) + (List.length ((x12.1, x13.1) :: []))) 140737488355328)) then (some (.inl (s.1, (s.2.1, (s.2.2.1, ((IntKind.wrap .i64 (s.2.2.2.1 + (1 : Int))), (s.2.2.2.2.1, (s.2.2.2.2.2.1, (s.2.2.2.2.2.2.1, (s.2.2.2.2.2.2.2.1, (s.2.2.2.2.2.2.2.2.1, (s.2.2.2.2.2.2.2.2.2 ++ ((x12.1, x13.1) :: []))))))))))))) else none))) else none) else none) else (((chart_Parse.f (List.getD s.2.1 (Int.toNat s.2.2.2.1) (bs [])))).bind fun x12 => (bif ((true && (Nat.ble (((List.length s.2.2.2.2.2.2.2.2.2) + (List.length ((x12.1, (0 : Int)) :: []))) * 32) 140737488355328)) && (Nat.ble ((List.length s.2.2.2.2.2.2.2.2.2) + (List.length ((x12.1, (0 : Int)) :: []))) 140737488355328)) then (some (.inl (s.1, (s.2.1, (s.2.2.1, ((IntKind.wrap .i64 (s.2.2.2.1 + (1 : Int))), (s.2.2.2.2.1, (s.2.2.2.2.2.1, (s.2.2.2.2.2.2.1, (s.2.2.2.2.2.2.2.1, (s.2.2.2.2.2.2.2.2.1, (s.2.2.2.2.2.2.2.2.2 ++ ((x12.1, (0 : Int)) :: []))))))))))))) else none)))) else none) else (some (.inr (s.1, s.2.2.2.2))))
theorem entry_Parse.t9_ok : ∀ s : Vals entry_Parse.sh9.tys, turnK P entry_Parse.H (lp []) (bodyAt (codeOf P 8) 9) 0 entry_Parse.sh9 entry_Parse.os9 s some = entry_Parse.t9 s := by rintro ⟨s0, s1, s2, s3, s4, s5, s6, s7, s8, s9⟩; cases s8 <;> cases s9 <;> kernel_rfl
noncomputable def entry_Parse.l9 : (ByteArray × ((List ByteArray) × (Int × (Int × (Int × (ByteArray × (Int × (ByteArray × ((List ((Int × ByteArray) × Int)) × (List ((Int × ByteArray) × Int))))))))))) → Option ((ByteArray × (Int × (ByteArray × (Int × (ByteArray × ((List ((Int × ByteArray) × Int)) × (List ((Int × ByteArray) × Int))))))))) := rounds entry_Parse.t9
noncomputable def entry_Parse.f (a : ByteArray) : Option ((Int × (ByteArray × (List ((Int × ByteArray) × Int)))) × Int) := (((strings_Split.f (a, (bs [32])))).bind fun x1 => (bif (decide ((((List.length x1) : Int) < (2 : Int)))) then (some (((0 : Int), ((bs []), [])), (4 : Int))) else (bif (true && (decide (((1 : Int) < ((List.length x1) : Int))))) then (bif (true && (decide (((0 : Int) < ((List.length x1) : Int))))) then (((strconv_Atoi.f (List.getD x1 0 (bs [])))).bind fun x2 => (bif (true && (decide (((2 : Int) ≤ ((List.length x1) : Int))))) then (((entry_Parse.l9 (a, ((List.take ((List.length x1) - 2) (List.drop 2 x1)), (((List.length (List.take ((List.length x1) - 2) (List.drop 2 x1))) : Int), ((0 : Int), ((0 : Int), ((bs []), (x2.1, ((List.getD x1 1 (bs [])), ([], []))))))))))).bind fun x3 => (match x3.2.2.2.2.2.1 with | [] => (match x3.2.2.2.2.2.2 with | [] => (((entry_Text.f (x3.2.2.2.1, (x3.2.2.2.2.1, [])))).bind fun x4 => (bif (x4.2 != (0 : Int)) then (some (((0 : Int), ((bs []), [])), (4 : Int))) else (bif (!((ByteArray.toList x4.1) == (ByteArray.toList x3.1))) then (some (((0 : Int), ((bs []), [])), (4 : Int))) else (some ((x3.2.2.2.1, (x3.2.2.2.2.1, [])), (0 : Int)))))) | x4 :: x5 => (((entry_Text.f (x3.2.2.2.1, (x3.2.2.2.2.1, (x4 :: x5))))).bind fun x6 => (bif (x6.2 != (0 : Int)) then (some (((0 : Int), ((bs []), [])), (4 : Int))) else (bif (!((ByteArray.toList x6.1) == (ByteArray.toList x3.1))) then (some (((0 : Int), ((bs []), [])), (4 : Int))) else (some ((x3.2.2.2.1, (x3.2.2.2.2.1, (x4 :: x5))), (0 : Int))))))) | x4 :: x5 => (match x3.2.2.2.2.2.2 with | [] => (((entry_Text.f (x3.2.2.2.1, (x3.2.2.2.2.1, [])))).bind fun x6 => (bif (x6.2 != (0 : Int)) then (some (((0 : Int), ((bs []), [])), (4 : Int))) else (bif (!((ByteArray.toList x6.1) == (ByteArray.toList x3.1))) then (some (((0 : Int), ((bs []), [])), (4 : Int))) else (some ((x3.2.2.2.1, (x3.2.2.2.2.1, [])), (0 : Int)))))) | x6 :: x7 => (((entry_Text.f (x3.2.2.2.1, (x3.2.2.2.2.1, (x6 :: x7))))).bind fun x8 => (bif (x8.2 != (0 : Int)) then (some (((0 : Int), ((bs []), [])), (4 : Int))) else (bif (!((ByteArray.toList x8.1) == (ByteArray.toList x3.1))) then (some (((0 : Int), ((bs []), [])), (4 : Int))) else (some ((x3.2.2.2.1, (x3.2.2.2.2.1, (x6 :: x7))), (0 : Int))))))))) else none)) else none) else none)))
theorem entry_Parse.ok : ∀ a : Vals entry_Parse.As.tys, fnK P entry_Parse.H (lp [(9, (NodeT.summ ⟨entry_Parse.sh9, entry_Parse.os9, entry_Parse.l9⟩ 0))]) 8 entry_Parse.As entry_Parse.m a some = entry_Parse.f a := fun a => by kernel_rfl
noncomputable abbrev entry_Parse.row : Row := fnRow 8 entry_Parse.As entry_Parse.m entry_Parse.f
theorem entry_Parse.row_ok : RowOK P G1 entry_Parse.row := row_told entry_Parse.hok (lp_of (l := [(9, (NodeT.summ ⟨entry_Parse.sh9, entry_Parse.os9, entry_Parse.l9⟩ 0))]) ⟨(loop_sum entry_Parse.hok (by kernel_rfl) (by kernel_rfl) (l := []) trivial entry_Parse.sh9 entry_Parse.os9 (by kernel_rfl) entry_Parse.t9 entry_Parse.t9_ok), trivial⟩) (fun _ => rfl) entry_Parse.ok
end Go.Proofs.YtcadnpdhiolmfaaDoor
end
section
set_option linter.unusedVariables false
set_option linter.unusedSimpArgs false
set_option maxRecDepth 10000
namespace Go.Proofs.YtcadnpdhiolmfaaDoor
open Go Go.Fw
def accP : List UInt8 → Option Acc
  | [] => none
  | x :: r => bif x == 67 && maySB (1, bs r) then some (1, bs r) else bif x == 65 && maySB (2, bs r) then some (2, bs r) else bif x == 72 && maySB (3, bs r) then some (3, bs r) else bif x == 68 && maySB (4, bs r) then some (4, bs r) else none
theorem accP_cons (x : UInt8) (r : List UInt8) : accP (x :: r) = bif x == 67 && maySB (1, bs r) then some (1, bs r) else bif x == 65 && maySB (2, bs r) then some (2, bs r) else bif x == 72 && maySB (3, bs r) then some (3, bs r) else bif x == 68 && maySB (4, bs r) then some (4, bs r) else none := rfl
theorem one_eq (c x : UInt8) : decide (bs [c] = bs [x]) = (x == c) := by
  rw [Bool.eq_iff_iff, decide_eq_true_eq, beq_iff_eq, bs_inj]
  constructor
  · intro h; injection h with h; exact h.symm
  · rintro rfl; rfl
theorem chartParse_is {l : List UInt8} (hl : l.length ≤ 1000) : chart_Parse.f (bs l) = some (match accP l with | some a => (a, 0) | none => ((0, bs []), 4)) := by
  let E : ByteArray × (ByteArray × (ByteArray × (ByteArray × ByteArray))) := (bs [], bs [67], bs [65], bs [72], bs [68])
  cases l with
  | nil =>
    have hr := rounds_to (t := chart_Parse.t3) (fun i => (bs [], E, ((i : Nat) : Int), (0 : Int), bs [])) 5 (fun i hi => by
      have : i = 0 ∨ i = 1 ∨ i = 2 ∨ i = 3 ∨ i = 4 := by omega
      rcases this with rfl | rfl | rfl | rfl | rfl <;> (simp only [chart_Parse.t3, texts_nil, decide_true]; rfl))
    have h0 : chart_Parse.l3 (bs [], E, (0 : Int), (0 : Int), bs []) = some (.inr (0, bs [])) := by
      have e : chart_Parse.l3 (bs [], E, (0 : Int), (0 : Int), bs []) = _ := hr
      rw [e, rounds_end (r := .inr (0, bs []))]
      rfl
    unfold chart_Parse.f
    simp only [E] at h0
    simp only [h0, Option.bind_some]
    rfl
  | cons x r =>
    have hne : decide (bs (x :: r) = bs []) = false := decide_eq_false fun e => by simpa using bs_inj.1 e
    have e1 : ByteArray.extract (bs (x :: r)) 0 1 = bs [x] := by rw [bs_extract]; rfl
    have e2 : ByteArray.extract (bs (x :: r)) 1 (bs (x :: r)).size = bs r := by rw [bs_extract, bs_size, List.take_length]; rfl
    have d1 : decide ((1 : Int) ≤ ((bs (x :: r)).size : Int)) = true := decide_eq_true (by rw [bs_size, List.length_cons]; omega)
    have hn : decide (bs [] = bs [x]) = false := decide_eq_false fun e => by simpa using bs_inj.1 e
    let ex : Nat → Option ((Int × (Int × ByteArray)) ⊕ (Int × ByteArray)) := fun i => match i with
      | 1 => bif x == 67 && maySB (1, bs r) then some (.inl (0, 1, bs r)) else none
      | 2 => bif x == 65 && maySB (2, bs r) then some (.inl (0, 2, bs r)) else none
      | 3 => bif x == 72 && maySB (3, bs r) then some (.inl (0, 3, bs r)) else none
      | 4 => bif x == 68 && maySB (4, bs r) then some (.inl (0, 4, bs r)) else none
      | _ => none
    have hf := rounds_first (t := chart_Parse.t3) (fun i => (bs (x :: r), E, ((i : Nat) : Int), (0 : Int), bs [])) ex (.inr (0, bs [])) 5 (fun i hi _ => by
      have : i = 0 ∨ i = 1 ∨ i = 2 ∨ i = 3 ∨ i = 4 := by omega
      rcases this with rfl | rfl | rfl | rfl | rfl
      · simp only [chart_Parse.t3, texts_nil, hne, texts_eq, e1, d1, E, hn]; rfl
      · have q : ((1 : Nat) : Int) = 1 := rfl
        simp only [chart_Parse.t3, texts_nil, hne, texts_eq, e1, e2, d1, E, one_eq, chartMay_is, ex, q]
        cases x == 67 <;> cases maySB (1, bs r) <;> rfl
      · have q : ((2 : Nat) : Int) = 2 := rfl
        simp only [chart_Parse.t3, texts_nil, hne, texts_eq, e1, e2, d1, E, one_eq, chartMay_is, ex, q]
        cases x == 65 <;> cases maySB (2, bs r) <;> rfl
      · have q : ((3 : Nat) : Int) = 3 := rfl
        simp only [chart_Parse.t3, texts_nil, hne, texts_eq, e1, e2, d1, E, one_eq, chartMay_is, ex, q]
        cases x == 72 <;> cases maySB (3, bs r) <;> rfl
      · have q : ((4 : Nat) : Int) = 4 := rfl
        simp only [chart_Parse.t3, texts_nil, hne, texts_eq, e1, e2, d1, E, one_eq, chartMay_is, ex, q]
        cases x == 68 <;> cases maySB (4, bs r) <;> rfl) (fun _ => rfl)
    have h0 : chart_Parse.l3 (bs (x :: r), E, (0 : Int), (0 : Int), bs []) = _ := hf
    have hx : (List.range 5).findSome? ex = (bif x == 67 && maySB (1, bs r) then some (.inl (0, 1, bs r)) else bif x == 65 && maySB (2, bs r) then some (.inl (0, 2, bs r)) else bif x == 72 && maySB (3, bs r) then some (.inl (0, 3, bs r)) else bif x == 68 && maySB (4, bs r) then some (.inl (0, 4, bs r)) else none) := by
      show ([0, 1, 2, 3, 4] : List Nat).findSome? ex = _
      simp only [List.findSome?_cons, List.findSome?_nil, ex]
      cases (x == 67 && maySB (1, bs r)) <;> cases (x == 65 && maySB (2, bs r)) <;> cases (x == 72 && maySB (3, bs r)) <;> cases (x == 68 && maySB (4, bs r)) <;> rfl
    rw [hx] at h0
    unfold chart_Parse.f accP
    simp only [E] at h0
    simp only [h0]
    cases (x == 67 && maySB (1, bs r)) <;> cases (x == 65 && maySB (2, bs r)) <;> cases (x == 72 && maySB (3, bs r)) <;> cases (x == 68 && maySB (4, bs r)) <;> rfl
theorem accP_ok {l : List UInt8} {a : Acc} (h : accP l = some a) : maySB a = true ∧ nameL a = l := by
  cases l with
  | nil => cases h
  | cons x r =>
    rw [accP_cons] at h
    cases h1 : (x == 67 && maySB (1, bs r))
    · rw [h1] at h
      cases h2 : (x == 65 && maySB (2, bs r))
      · rw [h2] at h
        cases h3 : (x == 72 && maySB (3, bs r))
        · rw [h3] at h
          cases h4 : (x == 68 && maySB (4, bs r))
          · rw [h4] at h; cases h
          · rw [h4] at h
            injection h with h; subst h
            simp only [Bool.and_eq_true, beq_iff_eq] at h4
            obtain ⟨rfl, h5⟩ := h4
            exact ⟨h5, by unfold nameL; rw [bs_list]; rfl⟩
        · rw [h3] at h
          injection h with h; subst h
          simp only [Bool.and_eq_true, beq_iff_eq] at h3
          obtain ⟨rfl, h5⟩ := h3
          exact ⟨h5, by unfold nameL; rw [bs_list]; rfl⟩
      · rw [h2] at h
        injection h with h; subst h
        simp only [Bool.and_eq_true, beq_iff_eq] at h2
        obtain ⟨rfl, h5⟩ := h2
        exact ⟨h5, by unfold nameL; rw [bs_list]; rfl⟩
    · rw [h1] at h
      injection h with h; subst h
      simp only [Bool.and_eq_true, beq_iff_eq] at h1
      obtain ⟨rfl, h5⟩ := h1
      exact ⟨h5, by unfold nameL; rw [bs_list]; rfl⟩
theorem accP_name {a : Acc} (h : maySB a = true) : accP (nameL a) = some a := by
  obtain ⟨k, s⟩ := a
  have hs : bs s.data.toList = s := (eq_bs s).symm
  have hk : k = 1 ∨ k = 2 ∨ k = 3 ∨ k = 4 := maySB_kind h
  rcases hk with rfl | rfl | rfl | rfl
  · rw [show nameL ((1 : Int), s) = 67 :: s.data.toList from rfl, accP_cons, hs, h]; rfl
  · rw [show nameL ((2 : Int), s) = 65 :: s.data.toList from rfl, accP_cons, hs, h]; rfl
  · rw [show nameL ((3 : Int), s) = 72 :: s.data.toList from rfl, accP_cons, hs, h]; rfl
  · rw [show nameL ((4 : Int), s) = 68 :: s.data.toList from rfl, accP_cons, hs, h]; rfl
theorem refParse11_is {l : List UInt8} (hl : l.length ≤ 1000) : bursarref11_Parse.f (bs l) = some (match accP l with | some a => (a, true) | none => ((0, bs []), false)) := by
  cases l with
  | nil =>
    have h0 : bursarref11_Parse.l3 (bs [], (1 : Int), (0 : Int), bs []) = some (.inr (0, bs [])) := by
      unfold bursarref11_Parse.l3
      rw [rounds_end (r := .inr (0, bs []))]
      simp only [bursarref11_Parse.t3, texts_nil, decide_true]
      rfl
    unfold bursarref11_Parse.f
    simp only [h0, Option.bind_some]
    rfl
  | cons x r =>
    have hne : decide (bs (x :: r) = bs []) = false := decide_eq_false fun e => by simpa using bs_inj.1 e
    have e2 : ByteArray.extract (bs (x :: r)) 1 (bs (x :: r)).size = bs r := by rw [bs_extract, bs_size, List.take_length]; rfl
    have d1 : decide ((1 : Int) ≤ ((bs (x :: r)).size : Int)) = true := decide_eq_true (by rw [bs_size, List.length_cons]; omega)
    have hname : ∀ k : Int, (bif maySB (k, bs r) then decide (nameT (k, bs r) = bs (x :: r)) else false) = (x == letterOf k && maySB (k, bs r)) := fun k => by
      unfold nameT
      cases maySB (k, bs r)
      · simp
      · simp only [cond_true, Bool.and_true, bs_list]
        rw [Bool.eq_iff_iff, decide_eq_true_eq, beq_iff_eq, bs_inj]
        constructor
        · intro h; injection h with h; exact h.symm
        · rintro rfl; rfl
    let ex : Nat → Option ((Bool × (Int × ByteArray)) ⊕ (Int × ByteArray)) := fun i => bif x == letterOf ((i + 1 : Nat) : Int) && maySB (((i + 1 : Nat) : Int), bs r) then some (.inl (true, ((i + 1 : Nat) : Int), bs r)) else none
    have hf := rounds_first (t := bursarref11_Parse.t3) (fun i => (bs (x :: r), ((i + 1 : Nat) : Int), (0 : Int), bs [])) ex (.inr (0, bs [])) 4 (fun i hi _ => by
      have d5 : decide (((i + 1 : Nat) : Int) < 5) = true := decide_eq_true (by omega)
      simp only [bursarref11_Parse.t3, d5, texts_nil, hne, texts_eq, e2, d1, cond_true, Bool.not_false, Bool.and_self, refName_is, Option.bind_some, wrap_up (show i + 1 < 9223372036854775807 by omega), ex]
      rw [← hname]
      cases maySB (((i + 1 : Nat) : Int), bs r)
      · rfl
      · simp only [cond_true]
        cases decide (nameT (((i + 1 : Nat) : Int), bs r) = bs (x :: r)) <;> rfl) (fun _ => rfl)
    have h0 : bursarref11_Parse.l3 (bs (x :: r), (1 : Int), (0 : Int), bs []) = _ := hf
    have hx : (List.range 4).findSome? ex = (bif x == 67 && maySB (1, bs r) then some (.inl (true, 1, bs r)) else bif x == 65 && maySB (2, bs r) then some (.inl (true, 2, bs r)) else bif x == 72 && maySB (3, bs r) then some (.inl (true, 3, bs r)) else bif x == 68 && maySB (4, bs r) then some (.inl (true, 4, bs r)) else none) := by
      show ([0, 1, 2, 3] : List Nat).findSome? ex = _
      simp only [List.findSome?_cons, List.findSome?_nil, ex]
      have q1 : ((0 + 1 : Nat) : Int) = 1 := rfl
      have q2 : ((1 + 1 : Nat) : Int) = 2 := rfl
      have q3 : ((2 + 1 : Nat) : Int) = 3 := rfl
      have q4 : ((3 + 1 : Nat) : Int) = 4 := rfl
      simp only [q1, q2, q3, q4, show letterOf 1 = 67 from rfl, show letterOf 2 = 65 from rfl, show letterOf 3 = 72 from rfl, show letterOf 4 = 68 from rfl]
      cases (x == 67 && maySB (1, bs r)) <;> cases (x == 65 && maySB (2, bs r)) <;> cases (x == 72 && maySB (3, bs r)) <;> cases (x == 68 && maySB (4, bs r)) <;> rfl
    rw [hx] at h0
    unfold bursarref11_Parse.f accP
    simp only [h0]
    cases (x == 67 && maySB (1, bs r)) <;> cases (x == 65 && maySB (2, bs r)) <;> cases (x == 72 && maySB (3, bs r)) <;> cases (x == 68 && maySB (4, bs r)) <;> rfl
end Go.Proofs.YtcadnpdhiolmfaaDoor
end
section
set_option linter.unusedVariables false
set_option linter.unusedSimpArgs false
set_option maxRecDepth 10000
namespace Go.Proofs.YtcadnpdhiolmfaaDoor
open Go Go.Fw
noncomputable def moneyV (l : List UInt8) : Int := ((money_Parse.f (bs l)).getD (0, 4)).1
theorem moneyV_is {l : List UInt8} (hl : l.length ≤ 1000) : (∃ e, money_Parse.f (bs l) = some (moneyV l, e)) ∧ Am (moneyV l) ∧ ∀ v, Am v → txt v = l → moneyV l = v := by
  obtain ⟨q, h1, h2, h3⟩ := Parse_law hl
  unfold moneyV
  rw [h1]
  refine ⟨⟨q.2, rfl⟩, ?_, fun v hv e => by rw [h3 v hv e]; rfl⟩
  rcases h2 with rfl | ⟨v, hv, _, rfl⟩
  · show Am 0
    unfold Am; omega
  · exact hv
def accV (l : List UInt8) : Acc := (accP l).getD (0, bs [])
theorem accV_is {l : List UInt8} (hl : l.length ≤ 1000) : ∃ e, chart_Parse.f (bs l) = some (accV l, e) := by
  rw [chartParse_is hl]
  unfold accV
  cases accP l with
  | none => exact ⟨_, rfl⟩
  | some a => exact ⟨_, rfl⟩
theorem accV_good {l : List UInt8} (hl : l.length ≤ 1000) : (Lit.int .i64 (accV l).1).wf = true ∧ (accV l).2.size ≤ maxLen := by
  have hmax : (1000 : Nat) ≤ maxLen := by decide
  unfold accV
  cases h : accP l with
  | none => exact ⟨by decide, by show (bs []).size ≤ maxLen; decide⟩
  | some a =>
    obtain ⟨h1, h2⟩ := accP_ok h
    have hs : a.2.size + 1 = l.length := by rw [← h2]; rfl
    refine ⟨?_, by show a.2.size ≤ maxLen; omega⟩
    show (Lit.int .i64 a.1).wf = true
    rcases maySB_kind h1 with e | e | e | e <;> rw [e] <;> decide
noncomputable def lineP (w : List UInt8) : Lin := bif decide (Lib.indexByte w 61 ≥ 0) then (accV (w.take (Lib.indexByte w 61).toNat), moneyV (w.drop ((Lib.indexByte w 61).toNat + 1))) else (accV w, 0)
theorem lineP_good {w : List UInt8} (hw : w.length ≤ 1000) : (Lit.int .i64 (lineP w).1.1).wf = true ∧ (lineP w).1.2.size ≤ maxLen ∧ Am (lineP w).2 := by
  unfold lineP
  cases decide (Lib.indexByte w 61 ≥ 0)
  · obtain ⟨h1, h2⟩ := accV_good hw
    exact ⟨h1, h2, by show Am 0; unfold Am; omega⟩
  · obtain ⟨h1, h2⟩ := accV_good (l := w.take (Lib.indexByte w 61).toNat) (by simp; omega)
    exact ⟨h1, h2, (moneyV_is (l := w.drop ((Lib.indexByte w 61).toNat + 1)) (by simp; omega)).2.1⟩
theorem line_step {a : ByteArray} {W : List ByteArray} {i : Nat} {u : List UInt8} {b : Int} {r : ByteArray} {L : List Lin} (hi : i < W.length) (hW : W.length ≤ 1000) (hu : W.getD i (bs []) = bs u) (hl : u.length ≤ 1000) (hL : L.length ≤ 1000) :
    entry_Parse.t9 (a, W, (W.length : Int), ((i : Nat) : Int), 0, bs [], b, r, [], L) = some (.inl (a, W, (W.length : Int), ((i + 1 : Nat) : Int), 0, bs [], b, r, [], L ++ [lineP u])) := by
  have n1 : Nat.ble ((L.length + 1) * 32) 140737488355328 = true := Nat.ble_eq_true_of_le (by omega)
  have n2 : Nat.ble (L.length + 1) 140737488355328 = true := Nat.ble_eq_true_of_le (by omega)
  have hd : Array.toList (ByteArray.data (bs u)) = u := bs_list u
  unfold lineP
  simp only [entry_Parse.t9, inb hi, cond_true, ge0' i, Bool.and_self, Int.toNat_natCast, hu, wrap_up (show i < 9223372036854775807 by omega), bs_toList, bs_size, hd, List.length_cons, List.length_nil, Nat.zero_add, n1, n2]
  by_cases h61 : u = [61]
  · subst h61
    obtain ⟨e1, h1⟩ := accV_is (l := []) (by simp)
    obtain ⟨⟨e2, h2⟩, _⟩ := moneyV_is (l := []) (by simp)
    have x1 : ByteArray.extract (bs [61]) 0 0 = bs [] := rfl
    have x2 : ByteArray.extract (bs [61]) 1 1 = bs [] := by rw [bs_extract]; rfl
    have x3 : Lib.indexByte [61] 61 = 0 := rfl
    simp only [BEq.rfl, cond_true, x1, x2, h1, h2, Option.bind_some, x3, List.length_singleton]
    rfl
  · have e61 : (([61] : List UInt8) == u) = false := by simpa using fun e => h61 e.symm
    simp only [e61, cond_false]
    by_cases hx : Lib.indexByte u 61 ≥ 0
    · have hlt := indexByte_lt 61 u
      obtain ⟨k, hk⟩ : ∃ k : Nat, Lib.indexByte u 61 = (k : Int) := ⟨(Lib.indexByte u 61).toNat, by omega⟩
      rw [hk] at hlt ⊢
      obtain ⟨e1, h1⟩ := accV_is (l := u.take k) (by simp; omega)
      obtain ⟨⟨e2, h2⟩, _⟩ := moneyV_is (l := u.drop (k + 1)) (by simp; omega)
      have x1 : ByteArray.extract (bs u) 0 k = bs (u.take k) := by rw [bs_extract]; rfl
      have x2 : ByteArray.extract (bs u) (k + 1) u.length = bs (u.drop (k + 1)) := by rw [bs_extract, List.take_length]
      have d1 : decide (((k : Nat) : Int) ≤ ((u.length : Nat) : Int)) = true := decide_eq_true (by omega)
      have d2 : decide (((k + 1 : Nat) : Int) ≤ ((u.length : Nat) : Int)) = true := decide_eq_true (by omega)
      simp only [decide_eq_true (show ((k : Nat) : Int) ≥ 0 by omega), cond_true, ge0' k, ge0' (k + 1), wrap_up (show k < 9223372036854775807 by omega), d1, d2, Bool.and_self, Int.toNat_natCast, x1, x2, h1, h2, Option.bind_some]
    · obtain ⟨e1, h1⟩ := accV_is (l := u) hl
      simp only [decide_eq_false hx, cond_false, h1, Option.bind_some]
noncomputable def rawE (l : List UInt8) : Ent := ((atoiU ((splitL 32 l).getD 0 [])).1, bs ((splitL 32 l).getD 1 []), ((splitL 32 l).drop 2).map lineP)
theorem map_getD (l : List (List UInt8)) (i : Nat) : (l.map bs).getD i (bs []) = bs (l.getD i []) := by
  simp only [List.getD_eq_getElem?_getD, List.getElem?_map]
  cases l[i]? <;> rfl
theorem rawE_good {l : List UInt8} (hl : l.length ≤ 900) : goodL (rawE l).2.2 := by
  intro y hy
  obtain ⟨w, hw, rfl⟩ := List.mem_map.1 hy
  have := parts_len 32 l w (List.mem_of_mem_drop hw)
  exact lineP_good (by omega)
theorem entParse_is {l : List UInt8} (hl : l.length ≤ 900) : entry_Parse.f (bs l) = some (bif decide (2 ≤ (splitL 32 l).length) && (checkE (rawE l) == 0 && decide (textE (rawE l) = l)) then (rawE l, 0) else ((0, bs [], []), 4)) := by
  have hS := Split_is hl 32
  have hlen := splitL_len 32 l
  have hcnt := cntL_le 32 l
  have hg := rawE_good hl
  have ht := entText_is hg
  obtain ⟨ws, hws⟩ : ∃ ws, splitL 32 l = ws := ⟨_, rfl⟩
  have hparts := parts_len 32 l
  unfold rawE at ht hg ⊢
  rw [hws] at hS hlen hparts ht hg ⊢
  unfold entry_Parse.f
  rw [hS, Option.bind_some]
  by_cases h2 : ws.length < 2
  · rw [List.length_map, decide_eq_true (show (ws.length : Int) < 2 by omega), decide_eq_false (show ¬ 2 ≤ ws.length by omega)]; rfl
  · have hat : ∀ s : List UInt8, s.length ≤ 1000 → strconv_Atoi.f (bs s) = some (atoiU s) := fun s hs => by
      show (bif decide ((bs s).size ≤ 281474976710656) then some (atoiU (bs s).data.toList) else none) = _
      rw [bs_size, decide_eq_true (by omega), bs_list]; rfl
    have h0 : (ws.getD 0 []).length ≤ 1000 := by
      rw [getD_at (show 0 < ws.length by omega)]
      have := hparts _ (List.getElem_mem (show 0 < ws.length by omega)); omega
    have hW : List.take (ws.length - 2) (List.drop 2 (ws.map bs)) = (ws.drop 2).map bs := by
      rw [← List.map_drop, List.take_of_length_le (by simp)]
    have hWl : ((ws.drop 2).map bs).length ≤ 1000 := by simp; omega
    obtain ⟨b, hb⟩ : ∃ b, (atoiU (ws.getD 0 [])).1 = b := ⟨_, rfl⟩
    have hloop := rounds_map (t := entry_Parse.t9) ((ws.drop 2).map bs) (bs []) (fun s : ByteArray => lineP s.data.toList) (fun acc i => (bs l, (ws.drop 2).map bs, (((ws.drop 2).map bs).length : Int), ((i : Nat) : Int), (0 : Int), bs [], b, bs (ws.getD 1 []), ([] : List Lin), acc)) (fun acc => (bs l, (0 : Int), bs [], b, bs (ws.getD 1 []), ([] : List Lin), acc)) (fun i hi => by
      have hu := map_getD (ws.drop 2) i
      have hlw : ((ws.drop 2).getD i []).length ≤ 1000 := by
        have hi' : i < (ws.drop 2).length := by simpa using hi
        rw [getD_at hi']
        have := hparts _ (List.mem_of_mem_drop (List.getElem_mem hi')); omega
      have := line_step (a := bs l) (b := b) (r := bs (ws.getD 1 [])) (L := (((ws.drop 2).map bs).take i).map (fun s : ByteArray => lineP s.data.toList)) hi hWl hu hlw (by simp at hWl ⊢; omega)
      rw [hu, bs_list]
      exact this) (fun acc _ => by simp only [entry_Parse.t9, outb, cond_false])
    have hl9 : entry_Parse.l9 (bs l, (ws.drop 2).map bs, (((ws.drop 2).map bs).length : Int), (0 : Int), (0 : Int), bs [], b, bs (ws.getD 1 []), [], []) = _ := hloop
    have hmm : ((ws.drop 2).map bs).map (fun s : ByteArray => lineP s.data.toList) = (ws.drop 2).map lineP := by
      rw [List.map_map]
      exact List.map_congr_left fun s _ => by show lineP (bs s).data.toList = _; rw [bs_list]
    rw [hmm] at hl9
    rw [hb] at ht hg ⊢
    have dl2 : decide ((2 : Int) ≤ ((ws.length : Nat) : Int)) = true := decide_eq_true (by omega)
    simp only [List.length_map] at hl9
    simp only [List.length_map, decide_eq_false (show ¬ (ws.length : Int) < 2 by omega), decide_eq_true (show (1 : Int) < (ws.length : Int) by omega), decide_eq_true (show (0 : Int) < (ws.length : Int) by omega), dl2, decide_eq_true (show 2 ≤ ws.length by omega), Bool.and_self, Bool.true_and, cond_true, cond_false, map_getD, hat _ h0, Option.bind_some, hb, hW, hl9]
    obtain ⟨L, hL⟩ : ∃ L, (ws.drop 2).map lineP = L := ⟨_, rfl⟩
    rw [hL] at ht ⊢
    have hfin : (entry_Text.f (b, bs (ws.getD 1 []), L)).bind (fun x4 : ByteArray × Int => bif x4.2 != 0 then some (((0 : Int), bs [], ([] : List Lin)), (4 : Int)) else bif !((ByteArray.toList x4.1) == ByteArray.toList (bs l)) then some ((0, bs [], []), 4) else some ((b, bs (ws.getD 1 []), L), 0)) =
        some (bif checkE (b, bs (ws.getD 1 []), L) == 0 && decide (textE (b, bs (ws.getD 1 []), L) = l) then ((b, bs (ws.getD 1 []), L), 0) else ((0, bs [], []), 4)) := by
      rw [ht, Option.bind_some]
      cases hc : (checkE (b, bs (ws.getD 1 []), L) == 0)
      · have : (checkE (b, bs (ws.getD 1 []), L) != 0) = true := by unfold bne; rw [hc]; rfl
        simp only [cond_false, this, cond_true, Bool.false_and]
      · simp only [cond_true, bne_self_eq_false, cond_false, texts_eq, Bool.true_and]
        have : decide (bs (textE (b, bs (ws.getD 1 []), L)) = bs l) = decide (textE (b, bs (ws.getD 1 []), L) = l) := by
          rw [Bool.eq_iff_iff]; simp only [decide_eq_true_eq]; exact bs_inj
        rw [this]
        cases decide (textE (b, bs (ws.getD 1 []), L) = l) <;> rfl
    cases L with
    | nil => exact hfin
    | cons y L => exact hfin
theorem split_spaced : ∀ (ws : List (List UInt8)) (w : List UInt8), noSp w → (∀ x ∈ ws, noSp x) → splitL 32 (w ++ spaced ws) = w :: ws
  | [], w, hw, _ => by
    rw [show spaced [] = [] from rfl, List.append_nil]
    exact splitL_one 32 w hw
  | v :: ws, w, hw, h => by
    rw [spaced_cons, splitL_sep 32 w _ hw, split_spaced ws v (h v (List.mem_cons_self ..)) fun x hx => h x (List.mem_cons_of_mem _ hx)]
theorem words_of {y : Ent} (hc : checkE y = 0) : splitL 32 (textE y) = numL y.1.toNat :: y.2.1.data.toList :: y.2.2.map lineT := by
  obtain ⟨_, _, h3, _, _, h6, _⟩ := checkE_ok hc
  unfold textE
  rw [splitL_sep 32 _ _ numL_no, split_spaced _ _ (okRef_no h3) fun x hx => by
    obtain ⟨z, hz, rfl⟩ := List.mem_map.1 hx
    exact lineT_no (okLines_mem h6 z hz)]
theorem atoi_num {n : Nat} (h : n ≤ 2147483647) : (atoiU (numL n)).1 = (n : Int) := by
  have hd : ∀ c ∈ numL n, 48 ≤ c.toNat ∧ c.toNat ≤ 57 := fun c hc => by
    unfold numL at hc
    rcases List.mem_append.1 hc with hc | hc
    · exact decP_dig 19 _ c hc
    · rw [List.mem_singleton.1 hc, dgt_nat (by omega)]; omega
  have hne : ¬ numL n = [] := fun e => by unfold numL at e; simp at e
  have hp : Lib.parseMag (numL n) = .ok n := by
    rw [← Lib.parseUintB_64]
    unfold Lib.parseUintB
    rw [if_neg hne, show 2 ^ 64 - 1 = 18446744073709551615 from rfl, numL_val h]; rfl
  obtain ⟨l, hl⟩ : ∃ l, numL n = l := ⟨_, rfl⟩
  rw [hl] at hd hp hne ⊢
  cases l with
  | nil => exact absurd rfl hne
  | cons c r =>
    have hc := hd c (List.mem_cons_self ..)
    unfold atoiU Lib.atoiAll
    have n1 : ¬ (c.toNat = 43 ∨ c.toNat = 45) := by omega
    have n2 : ¬ c.toNat = 45 := by omega
    have n0 : ¬ c.toNat = 43 := by omega
    simp only [n0, n2, or_self, if_false, not_false_eq_true, true_and, false_and]
    rw [hp]
    have n3 : ¬ 9223372036854775808 ≤ n := by omega
    simp only [n3, if_false]
theorem lineP_back {z : Lin} (hz : maySB z.1 = true) (ha : Am z.2) : lineP (lineT z) = z := by
  have hi : Lib.indexByte (lineT z) 61 = ((nameL z.1).length : Int) := by
    unfold lineT
    exact indexByte_skip 61 _ _ fun c hc => (nameL_no hz c hc).2
  have e1 : (lineT z).take (nameL z.1).length = nameL z.1 := by unfold lineT; simp
  have e2 : (lineT z).drop ((nameL z.1).length + 1) = txt z.2 := by
    unfold lineT
    rw [show nameL z.1 ++ 61 :: txt z.2 = (nameL z.1 ++ [61]) ++ txt z.2 by simp, List.drop_append_of_le_length (by simp)]
    simp
  have hl := txt_len z.2
  unfold lineP
  rw [hi, decide_eq_true (by omega), Int.toNat_natCast, e1, e2, (moneyV_is (by omega)).2.2 z.2 ha rfl]
  unfold accV
  rw [accP_name hz]; rfl
theorem rawE_back {y : Ent} (hc : checkE y = 0) (hg : goodL y.2.2) : rawE (textE y) = y := by
  obtain ⟨h1, h2, h3, _, _, h6, _⟩ := checkE_ok hc
  unfold rawE
  rw [words_of hc]
  have e1 : (atoiU (numL y.1.toNat)).1 = y.1 := by rw [atoi_num (by omega)]; omega
  have e3 : (y.2.2.map lineT).map lineP = y.2.2 := by
    rw [List.map_map]
    conv => rhs; rw [← List.map_id y.2.2]
    exact List.map_congr_left fun z hz => lineP_back (okLines_mem h6 z hz) (hg z hz).2.2
  show ((atoiU (numL y.1.toNat)).1, bs y.2.1.data.toList, (y.2.2.map lineT).map lineP) = y
  rw [e1, e3, ← eq_bs]
end Go.Proofs.YtcadnpdhiolmfaaDoor
end
section
set_option linter.unusedVariables false
set_option maxRecDepth 100000
namespace Go.Proofs.YtcadnpdhiolmfaaDoor
open Go Go.Fw
abbrev bursarref12_Digits.As : Shs := (.cons (.x (.i .i64)) .nil)
abbrev bursarref12_Digits.m : Back := [(false, .s)]
noncomputable abbrev bursarref12_Digits.H : HK := hk P G0 E0 J0 [] noLoops 4
theorem bursarref12_Digits.rows : TabOK P G0 (tabF []) := rows_ok (ws := []) trivial
theorem bursarref12_Digits.hok : HKOK P bursarref12_Digits.H := hk_ok e0_ok j0_ok bursarref12_Digits.rows (fun g n => noLoops_ok g n) 4
noncomputable abbrev bursarref12_Digits.sh3 : SSh := ⟨[(0, (.x (.i .i64))), (3, (.x .s))], []⟩
noncomputable abbrev bursarref12_Digits.os3 : PEnds := [((.exit 0), ⟨[(3, (.x .s))], []⟩)]
noncomputable def bursarref12_Digits.t3 (s : (Int × ByteArray)) : Option ((Int × ByteArray) ⊕ (ByteArray)) := (bif (decide ((s.1 > (9 : Int)))) then (bif (Nat.ble ((ByteArray.mk (List.toArray (List.map (fun y2 => (UInt8.ofNat (Int.toNat y2))) ((IntKind.wrap .u8 (IntKind.wrap .i64 ((48 : Int) + (Int.tmod (IntKind.wrap .i64 (Int.tdiv s.1 (10 : Int))) (10 : Int))))) :: [])))).size + s.2.size) 9223372036854775807) then (some (.inl ((IntKind.wrap .i64 (Int.tdiv s.1 (10 : Int))), ((ByteArray.mk (List.toArray (List.map (fun y2 => (UInt8.ofNat (Int.toNat y2))) ((IntKind.wrap .u8 (IntKind.wrap .i64 ((48 : Int) + (Int.tmod (IntKind.wrap .i64 (Int.tdiv s.1 (10 : Int))) (10 : Int))))) :: [])))) ++ s.2)))) else none) else (some (.inr s.2)))
theorem bursarref12_Digits.t3_ok : ∀ s : Vals bursarref12_Digits.sh3.tys, turnK P bursarref12_Digits.H (lp []) (bodyAt (codeOf P 33) 3) 0 bursarref12_Digits.sh3 bursarref12_Digits.os3 s some = bursarref12_Digits.t3 s := fun s => by kernel_rfl
noncomputable def bursarref12_Digits.l3 : (Int × ByteArray) → Option (ByteArray) := rounds bursarref12_Digits.t3
noncomputable def bursarref12_Digits.f (a : Int) : Option ByteArray := (((bursarref12_Digits.l3 (a, (ByteArray.mk (List.toArray (List.map (fun y2 => (UInt8.ofNat (Int.toNat y2))) ((IntKind.wrap .u8 (IntKind.wrap .i64 ((48 : Int) + (Int.tmod a (10 : Int))))) :: []))))))).bind fun x1 => (some x1))
theorem bursarref12_Digits.ok : ∀ a : Vals bursarref12_Digits.As.tys, fnK P bursarref12_Digits.H (lp [(3, (NodeT.summ ⟨bursarref12_Digits.sh3, bursarref12_Digits.os3, bursarref12_Digits.l3⟩ 0))]) 33 bursarref12_Digits.As bursarref12_Digits.m a some = bursarref12_Digits.f a := fun a => by kernel_rfl
noncomputable abbrev bursarref12_Digits.row : Row := fnRow 33 bursarref12_Digits.As bursarref12_Digits.m bursarref12_Digits.f
theorem bursarref12_Digits.row_ok : RowOK P G0 bursarref12_Digits.row := row_told bursarref12_Digits.hok (lp_of (l := [(3, (NodeT.summ ⟨bursarref12_Digits.sh3, bursarref12_Digits.os3, bursarref12_Digits.l3⟩ 0))]) ⟨(loop_sum bursarref12_Digits.hok (by kernel_rfl) (by kernel_rfl) (l := []) trivial bursarref12_Digits.sh3 bursarref12_Digits.os3 (by kernel_rfl) bursarref12_Digits.t3 bursarref12_Digits.t3_ok), trivial⟩) (fun _ => rfl) bursarref12_Digits.ok
abbrev bursarref12_Text.As : Shs := (.cons (.x T_api_Entry) .nil)
abbrev bursarref12_Text.m : Back := [(false, .s)]
noncomputable abbrev bursarref12_Text.H : HK := hk P G0 E0 J0 [bursarref11_Name.row, bursarref12_Digits.row, bursarref01_Text.row] noLoops 4
theorem bursarref12_Text.rows : TabOK P G0 (tabF [bursarref11_Name.row, bursarref12_Digits.row, bursarref01_Text.row]) := rows_ok (ws := [bursarref11_Name.row, bursarref12_Digits.row, bursarref01_Text.row]) ⟨bursarref11_Name.row_ok, ⟨bursarref12_Digits.row_ok, ⟨bursarref01_Text.row_ok, trivial⟩⟩⟩
theorem bursarref12_Text.hok : HKOK P bursarref12_Text.H := hk_ok e0_ok j0_ok bursarref12_Text.rows (fun g n => noLoops_ok g n) 4
noncomputable abbrev bursarref12_Text.sh4 : SSh := ⟨[(1, (.pt 0 0)), (3, (.x .s)), (4, (.x (.i .i64)))], [.box (.cons (.x (.i .i64)) (.cons (.x .s) (.cons (.x (.l (.g (.p (.g (.p (.i .i64) .s)) (.i .i64))))) .nil)))]⟩
noncomputable abbrev bursarref12_Text.os4 : PEnds := [((.exit 0), ⟨[(3, (.x .s))], []⟩)]
noncomputable def bursarref12_Text.t4 (s : (ByteArray × (Int × (Int × (ByteArray × (List ((Int × ByteArray) × Int))))))) : Option ((ByteArray × (Int × (Int × (ByteArray × (List ((Int × ByteArray) × Int)))))) ⊕ (ByteArray)) := (bif (decide ((s.2.1 < ((List.length s.2.2.2.2) : Int)))) then (bif ((decide (((0 : Int) ≤ s.2.1))) && (decide ((s.2.1 < ((List.length s.2.2.2.2) : Int))))) then (((bursarref11_Name.f (List.getD s.2.2.2.2 (Int.toNat s.2.1) (Ty.dflt T_api_Line)).1)).bind fun x5 => (bif (Nat.ble (1 + x5.1.size) 9223372036854775807) then (bif (Nat.ble (((bs [32]) ++ x5.1).size + 1) 9223372036854775807) then (bif ((decide (((0 : Int) ≤ s.2.1))) && (decide ((s.2.1 < ((List.length s.2.2.2.2) : Int))))) then (((bursarref01_Text.f (List.getD s.2.2.2.2 (Int.toNat s.2.1) (Ty.dflt T_api_Line)).2)).bind fun x6 => (bif (Nat.ble ((((bs [32]) ++ x5.1) ++ (bs [61])).size + x6.size) 9223372036854775807) then (bif (Nat.ble (s.1.size + ((((bs [32]) ++ x5.1) ++ (bs [61])) ++ x6).size) 9223372036854775807) then (some (.inl ((s.1 ++ ((((bs [32]) ++ x5.1) ++ (bs [61])) ++ x6)), ((IntKind.wrap .i64 (s.2.1 + (1 : Int))), s.2.2)))) else none) else none)) else none) else none) else none)) else none) else (some (.inr s.1)))
theorem bursarref12_Text.t4_ok : ∀ s : Vals bursarref12_Text.sh4.tys, turnK P bursarref12_Text.H (lp []) (bodyAt (codeOf P 12) 4) 0 bursarref12_Text.sh4 bursarref12_Text.os4 s some = bursarref12_Text.t4 s := fun s => by kernel_rfl
noncomputable def bursarref12_Text.l4 : (ByteArray × (Int × (Int × (ByteArray × (List ((Int × ByteArray) × Int)))))) → Option (ByteArray) := rounds bursarref12_Text.t4
noncomputable def bursarref12_Text.f (a : (Int × (ByteArray × (List ((Int × ByteArray) × Int))))) : Option ByteArray := (((bursarref12_Digits.f a.1)).bind fun x1 => (bif (Nat.ble (x1.size + 1) 9223372036854775807) then (bif (Nat.ble ((x1 ++ (bs [32])).size + a.2.1.size) 9223372036854775807) then (((bursarref12_Text.l4 (((x1 ++ (bs [32])) ++ a.2.1), ((0 : Int), a)))).bind fun x2 => (some x2)) else none) else none))
theorem bursarref12_Text.ok : ∀ a : Vals bursarref12_Text.As.tys, fnK P bursarref12_Text.H (lp [(4, (NodeT.summ ⟨bursarref12_Text.sh4, bursarref12_Text.os4, bursarref12_Text.l4⟩ 0))]) 12 bursarref12_Text.As bursarref12_Text.m a some = bursarref12_Text.f a := fun a => by kernel_rfl
noncomputable abbrev bursarref12_Text.row : Row := fnRow 12 bursarref12_Text.As bursarref12_Text.m bursarref12_Text.f
theorem bursarref12_Text.row_ok : RowOK P G0 bursarref12_Text.row := row_told bursarref12_Text.hok (lp_of (l := [(4, (NodeT.summ ⟨bursarref12_Text.sh4, bursarref12_Text.os4, bursarref12_Text.l4⟩ 0))]) ⟨(loop_sum bursarref12_Text.hok (by kernel_rfl) (by kernel_rfl) (l := []) trivial bursarref12_Text.sh4 bursarref12_Text.os4 (by kernel_rfl) bursarref12_Text.t4 bursarref12_Text.t4_ok), trivial⟩) (fun _ => rfl) bursarref12_Text.ok
abbrev bursarref12_Parse.As : Shs := (.cons (.x .s) .nil)
abbrev bursarref12_Parse.m : Back := [(false, T_api_Entry), (false, .b)]
noncomputable abbrev bursarref12_Parse.H : HK := hk P G0 E0 J0 [bursarref12_Check.row, bursarref12_Text.row, bursarref12_cut.row, bursarref11_Parse.row, bursarref01_Parse.row] noLoops 4
theorem bursarref12_Parse.rows : TabOK P G0 (tabF [bursarref12_Check.row, bursarref12_Text.row, bursarref12_cut.row, bursarref11_Parse.row, bursarref01_Parse.row]) := rows_ok (ws := [bursarref12_Check.row, bursarref12_Text.row, bursarref12_cut.row, bursarref11_Parse.row, bursarref01_Parse.row]) ⟨bursarref12_Check.row_ok, ⟨bursarref12_Text.row_ok, ⟨bursarref12_cut.row_ok, ⟨bursarref11_Parse.row_ok, ⟨bursarref01_Parse.row_ok, trivial⟩⟩⟩⟩⟩
theorem bursarref12_Parse.hok : HKOK P bursarref12_Parse.H := hk_ok e0_ok j0_ok bursarref12_Parse.rows (fun g n => noLoops_ok g n) 4
noncomputable abbrev bursarref12_Parse.sh8 : SSh := ⟨[(0, (.x .s)), (2, (.pt 0 0)), (4, (.x (.l .s))), (5, (.pt 1 0)), (6, (.x (.i .i64)))], [.box (.cons (.x (.i .i64)) (.cons (.x .s) (.cons (.own 2 3) .nil))), .box (.cons (.x (.i .i64)) (.cons (.x .s) (.cons (.own 3 3) .nil))), .arrN T_api_Line, .arrN T_api_Line]⟩
noncomputable abbrev bursarref12_Parse.os8 : PEnds := [(.ret, ⟨[(2, (.pt 0 0)), (3, (.x .b))], [.box (.cons (.x (.i .i64)) (.cons (.x .s) (.cons (.own 1 3) .nil))), .arrN T_api_Line]⟩), ((.exit 0), ⟨[(0, (.x .s)), (2, (.pt 0 0)), (4, (.x (.l .s))), (5, (.pt 1 0))], [.box (.cons (.x (.i .i64)) (.cons (.x .s) (.cons (.own 2 3) .nil))), .box (.cons (.x (.i .i64)) (.cons (.x .s) (.cons (.own 3 3) .nil))), .arrN T_api_Line, .arrN T_api_Line]⟩)]
noncomputable def bursarref12_Parse.t8 (s : (ByteArray × ((List ByteArray) × (Int × (Int × (ByteArray × (Int × (ByteArray × ((List ((Int × ByteArray) × Int)) × (List ((Int × ByteArray) × Int))))))))))) : Option ((ByteArray × ((List ByteArray) × (Int × (Int × (ByteArray × (Int × (ByteArray × ((List ((Int × ByteArray) × Int)) × (List ((Int × ByteArray) × Int)))))))))) ⊕ ((Bool × (Int × (ByteArray × (List ((Int × ByteArray) × Int))))) ⊕ (ByteArray × ((List ByteArray) × (Int × (ByteArray × (Int × (ByteArray × ((List ((Int × ByteArray) × Int)) × (List ((Int × ByteArray) × Int))))))))))) := (bif (true && (decide (((0 : Int) < ((List.length s.2.1) : Int))))) then (bif (decide ((s.2.2.1 < ((List.getD s.2.1 0 (bs [])).size : Int)))) then (bif (true && (decide (((0 : Int) < ((List.length s.2.1) : Int))))) then (bif ((decide (((0 : Int) ≤ s.2.2.1))) && (decide ((s.2.2.1 < ((List.getD s.2.1 0 (bs [])).size : Int))))) then (bif (decide (((bt (List.getD s.2.1 0 (bs [])) (Int.toNat s.2.2.1)) < (48 : Int)))) then (some (.inr (.inl (false, ((0 : Int), ((bs []), [])))))) else (bif (true && (decide (((0 : Int) < ((List.length s.2.1) : Int))))) then (bif ((decide (((0 : Int) ≤ s.2.2.1))) && (decide ((s.2.2.1 < ((List.getD s.2.1 0 (bs [])).size : Int))))) then (bif (decide (((bt (List.getD s.2.1 0 (bs [])) (Int.toNat s.2.2.1)) > (57 : Int)))) then (some (.inr (.inl (false, ((0 : Int), ((bs []), [])))))) else (bif (true && (decide (((0 : Int) < ((List.length s.2.1) : Int))))) then (bif ((decide (((0 : Int) ≤ s.2.2.1))) && (decide ((s.2.2.1 < ((List.getD s.2.1 0 (bs [])).size : Int))))) then (some (.inl (s.1, (s.2.1, ((IntKind.wrap .i64 (s.2.2.1 + (1 : Int))), (s.2.2.2.1, (s.2.2.2.2.1, ((IntKind.wrap .i64 ((IntKind.wrap .i64 ((IntKind.wrap .i64 ((10 : Int) * s.2.2.2.2.2.1)) + (IntKind.wrap .i64 (bt (List.getD s.2.1 0 (bs [])) (Int.toNat s.2.2.1))))) - (48 : Int))), s.2.2.2.2.2.2)))))))) else none) else none)) else none) else none)) else none) else none) else (some (.inr (.inr (s.1, (s.2.1, s.2.2.2)))))) else none)
theorem bursarref12_Parse.t8_ok : ∀ s : Vals bursarref12_Parse.sh8.tys, turnK P bursarref12_Parse.H (lp []) (bodyAt (codeOf P 9) 8) 0 bursarref12_Parse.sh8 bursarref12_Parse.os8 s some = bursarref12_Parse.t8 s := by rintro ⟨s0, s1, s2, s3, s4, s5, s6, s7, s8⟩; cases s7 <;> cases s8 <;> kernel_rfl
noncomputable def bursarref12_Parse.l8 : (ByteArray × ((List ByteArray) × (Int × (Int × (ByteArray × (Int × (ByteArray × ((List ((Int × ByteArray) × Int)) × (List ((Int × ByteArray) × Int)))))))))) → Option ((Bool × (Int × (ByteArray × (List ((Int × ByteArray) × Int))))) ⊕ (ByteArray × ((List ByteArray) × (Int × (ByteArray × (Int × (ByteArray × ((List ((Int × ByteArray) × Int)) × (List ((Int × ByteArray) × Int)))))))))) := rounds bursarref12_Parse.t8
noncomputable abbrev bursarref12_Parse.sh11 : SSh := ⟨[(0, (.x .s)), (2, (.pt 0 0)), (4, (.x (.l .s))), (5, (.pt 1 0)), (7, (.x (.i .i64)))], [.box (.cons (.x (.i .i64)) (.cons (.x .s) (.cons (.own 2 3) .nil))), .box (.cons (.x (.i .i64)) (.cons (.x .s) (.cons (.own 3 3) .nil))), .arrN T_api_Line, .arrN T_api_Line]⟩
noncomputable abbrev bursarref12_Parse.os11 : PEnds := [(.ret, ⟨[(2, (.pt 0 0)), (3, (.x .b))], [.box (.cons (.x (.i .i64)) (.cons (.x .s) (.cons (.own 1 3) .nil))), .arrN T_api_Line]⟩), ((.exit 2), ⟨[(0, (.x .s)), (2, (.pt 0 0)), (5, (.pt 1 0))], [.box (.cons (.x (.i .i64)) (.cons (.x .s) (.cons (.own 2 3) .nil))), .box (.cons (.x (.i .i64)) (.cons (.x .s) (.cons (.own 3 3) .nil))), .arrN T_api_Line, .arrN T_api_Line]⟩)]
noncomputable def bursarref12_Parse.t11 (s : (ByteArray × ((List ByteArray) × (Int × (Int × (ByteArray × (Int × (ByteArray × ((List ((Int × ByteArray) × Int)) × (List ((Int × ByteArray) × Int))))))))))) : Option ((ByteArray × ((List ByteArray) × (Int × (Int × (ByteArray × (Int × (ByteArray × ((List ((Int × ByteArray) × Int)) × (List ((Int × ByteArray) × Int)))))))))) ⊕ ((Bool × (Int × (ByteArray × (List ((Int × ByteArray) × Int))))) ⊕ (ByteArray × (Int × (ByteArray × (Int × (ByteArray × ((List ((Int × ByteArray) × Int)) × (List ((Int × ByteArray) × Int)))))))))) := (bif (decide ((s.2.2.1 < ((List.length s.2.1) : Int)))) then (bif ((decide (((0 : Int) ≤ s.2.2.1))) && (decide ((s.2.2.1 < ((List.length s.2.1) : Int))))) then (((bursarref12_cut.f ((List.getD s.2.1 (Int.toNat s.2.2.1) (bs [])), (61 : Int)))).bind fun x11 => (bif (((List.length x11) : Int) != (2 : Int)) then (some (.inr (.inl (false, ((0 : Int), ((bs []), [])))))) else (bif (true && (decide (((0 : Int) < ((List.length x11) : Int))))) then (((bursarref11_Parse.f (List.getD x11 0 (bs [])))).bind fun x12 => (bif (true && (decide (((1 : Int) < ((List.length x11) : Int))))) then (((bursarref01_Parse.f (List.getD x11 1 (bs [])))).bind fun x13 => (bif (!x12.2) then (some (.inr (.inl (false, ((0 : Int), ((bs []), [])))))) else (bif (!x13.2) then (some (.inr (.inl (false, ((0 : Int), ((bs []), [])))))) else (bif ((true && (Nat.ble (((List.length s.2.2.2.2.2.2.2.2) + (List.length ((x12.1, x13.1) :: []))) * 32) 140737488355328)) && (Nat.ble ((List.length s.2.2.2.2.2.2.2.2) + (List.length ((x12.1, x13.1) :: []))) 140737488355328)) then (some (.inl (s.1, (s.2.1, ((IntKind.wrap .i64 (s.2.2.1 + (1 : Int))), (s.2.2.2.1, (s.2.2.2.2.1, (s.2.2.2.2.2.1, (s.2.2.2.2.2.2.1, (s.2.2.2.2.2.2.2.1, (s.2.2.2.2.2.2.2.2 ++ ((x12.1, x13.1) :: [])))))))))))) else none)))) else none)) else none))) else none) else (some (.inr (.inr (s.1, s.2.2.2)))))
theorem bursarref12_Parse.t11_ok : ∀ s : Vals bursarref12_Parse.sh11.tys, turnK P bursarref12_Parse.H (lp []) (bodyAt (codeOf P 9) 11) 0 bursarref12_Parse.sh11 bursarref12_Parse.os11 s some = bursarref12_Parse.t11 s := by rintro ⟨s0, s1, s2, s3, s4, s5, s6, s7, s8⟩; cases s7 <;> cases s8 <;> kernel_rfl
noncomputable def bursarref12_Parse.l11 : (ByteArray × ((List ByteArray) × (Int × (Int × (ByteArray × (Int × (ByteArray × ((List ((Int × ByteArray) × Int)) × (List ((Int × ByteArray) × Int)))))))))) → Option ((Bool × (Int × (ByteArray × (List ((Int × ByteArray) × Int))))) ⊕ (ByteArray × (Int × (ByteArray × (Int × (ByteArray × ((List ((Int × ByteArray) × Int)) × (List ((Int × ByteArray) × Int))))))))) := rounds bursarref12_Parse.t11
noncomputable def bursarref12_Parse.f (a : ByteArray) : Option ((Int × (ByteArray × (List ((Int × ByteArray) × Int)))) × Bool) := (((bursarref12_cut.f (a, (32 : Int)))).bind fun x1 => (bif (decide ((((List.length x1) : Int) < (2 : Int)))) then (some (((0 : Int), ((bs []), [])), false)) else (bif (true && (decide (((0 : Int) < ((List.length x1) : Int))))) then (bif (decide ((((List.getD x1 0 (bs [])).size : Int) > (10 : Int)))) then (some (((0 : Int), ((bs []), [])), false)) else (bif (true && (decide (((1 : Int) < ((List.length x1) : Int))))) then (((bursarref12_Parse.l8 (a, (x1, ((0 : Int), ((0 : Int), ((bs []), ((0 : Int), ((List.getD x1 1 (bs [])), ([], [])))))))))).bind fun x2 => (match x2 with | .inl x3 => (match x3.2.2.2 with | [] => (some ((x3.2.1, (x3.2.2.1, [])), x3.1)) | x4 :: x5 => (some ((x3.2.1, (x3.2.2.1, (x4 :: x5))), x3.1))) | .inr x3 => (match x3.2.2.2.2.2.2.1 with | [] => (match x3.2.2.2.2.2.2.2 with | [] => (((bursarref12_Parse.l11 (x3.1, (x3.2.1, ((2 : Int), (x3.2.2.1, (x3.2.2.2.1, (x3.2.2.2.2.1, (x3.2.2.2.2.2.1, ([], [])))))))))).bind fun x4 => (match x4 with | .inl x5 => (match x5.2.2.2 with | [] => (some ((x5.2.1, (x5.2.2.1, [])), x5.1)) | x6 :: x7 => (some ((x5.2.1, (x5.2.2.1, (x6 :: x7))), x5.1))) | .inr x5 => (match x5.2.2.2.2.2.1 with | [] => (match x5.2.2.2.2.2.2 with | [] => (((bursarref12_Check.f (x5.2.2.2.1, (x5.2.2.2.2.1, [])))).bind fun x6 => (bif (x6 != (0 : Int)) then (some (((0 : Int), ((bs []), [])), false)) else (((bursarref12_Text.f (x5.2.2.2.1, (x5.2.2.2.2.1, [])))).bind fun x7 => (bif (!((ByteArray.toList x7) == (ByteArray.toList x5.1))) then (some (((0 : Int), ((bs []), [])), false)) else (some ((x5.2.2.2.1, (x5.2.2.2.2.1, [])), true)))))) | x6 :: x7 => (((bursarref12_Check.f (x5.2.2.2.1, (x5.2.2.2.2.1, (x6 :: x7))))).bind fun x8 => (bif (x8 != (0 : Int)) then (some (((0 : Int), ((bs []), [])), false)) else (((bursarref12_Text.f (x5.2.2.2.1, (x5.2.2.2.2.1, (x6 :: x7))))).bind fun x9 => (bif (!((ByteArray.toList x9) == (ByteArray.toList x5.1))) then (some (((0 : Int), ((bs []), [])), false)) else (some ((x5.2.2.2.1, (x5.2.2.2.2.1, (x6 :: x7))), true))))))) | x6 :: x7 => (match x5.2.2.2.2.2.2 with | [] => (((bursarref12_Check.f (x5.2.2.2.1, (x5.2.2.2.2.1, [])))).bind fun x8 => (bif (x8 != (0 : Int)) then (some (((0 : Int), ((bs []), [])), false)) else (((bursarref12_Text.f (x5.2.2.2.1, (x5.2.2.2.2.1, [])))).bind fun x9 => (bif (!((ByteArray.toList x9) == (ByteArray.toList x5.1))) then (some (((0 : Int), ((bs []), [])), false)) else (some ((x5.2.2.2.1, (x5.2.2.2.2.1, [])), true)))))) | x8 :: x9 => (((bursarref12_Check.f (x5.2.2.2.1, (x5.2.2.2.2.1, (x8 :: x9))))).bind fun x10 => (bif (x10 != (0 : Int)) then (some (((0 : Int), ((bs []), [])), false)) else (((bursarref12_Text.f (x5.2.2.2.1, (x5.2.2.2.2.1, (x8 :: x9))))).bind fun x11 => (bif (!((ByteArray.toList x11) == (ByteArray.toList x5.1))) then (some (((0 : Int), ((bs []), [])), false)) else (some ((x5.2.2.2.1, (x5.2.2.2.2.1, (x8 :: x9))), true)))))))))) | x4 :: x5 => (((bursarref12_Parse.l11 (x3.1, (x3.2.1, ((2 : Int), (x3.2.2.1, (x3.2.2.2.1, (x3.2.2.2.2.1, (x3.2.2.2.2.2.1, ([], (x4 :: x5))))))))))).bind fun x6 => (match x6 with | .inl x7 => (match x7.2.2.2 with | [] => (some ((x7.2.1, (x7.2.2.1, [])), x7.1)) | x8 :: x9 => (some ((x7.2.1, (x7.2.2.1, (x8 :: x9))), x7.1))) | .inr x7 => (match x7.2.2.2.2.2.1 with | [] => (match x7.2.2.2.2.2.2 with | [] => (((bursarref12_Check.f (x7.2.2.2.1, (x7.2.2.2.2.1, [])))).bind fun x8 => (bif (x8 != (0 : Int)) then (some (((0 : Int), ((bs []), [])), false)) else (((bursarref12_Text.f (x7.2.2.2.1, (x7.2.2.2.2.1, [])))).bind fun x9 => (bif (!((ByteArray.toList x9) == (ByteArray.toList x7.1))) then (some (((0 : Int), ((bs []), [])), false)) else (some ((x7.2.2.2.1, (x7.2.2.2.2.1, [])), true)))))) | x8 :: x9 => (((bursarref12_Check.f (x7.2.2.2.1, (x7.2.2.2.2.1, (x8 :: x9))))).bind fun x10 => (bif (x10 != (0 : Int)) then (some (((0 : Int), ((bs []), [])), false)) else (((bursarref12_Text.f (x7.2.2.2.1, (x7.2.2.2.2.1, (x8 :: x9))))).bind fun x11 => (bif (!((ByteArray.toList x11) == (ByteArray.toList x7.1))) then (some (((0 : Int), ((bs []), [])), false)) else (some ((x7.2.2.2.1, (x7.2.2.2.2.1, (x8 :: x9))), true))))))) | x8 :: x9 => (match x7.2.2.2.2.2.2 with | [] => (((bursarref12_Check.f (x7.2.2.2.1, (x7.2.2.2.2.1, [])))).bind fun x10 => (bif (x10 != (0 : Int)) then (some (((0 : Int), ((bs []), [])), false)) else (((bursarref12_Text.f (x7.2.2.2.1, (x7.2.2.2.2.1, [])))).bind fun x11 => (bif (!((ByteArray.toList x11) == (ByteArray.toList x7.1))) then (some (((0 : Int), ((bs []), [])), false)) else (some ((x7.2.2.2.1, (x7.2.2.2.2.1, [])), true)))))) | x10 :: x11 => (((bursarref12_Check.f (x7.2.2.2.1, (x7.2.2.2.2.1, (x10 :: x11))))).bind fun x12 => (bif (x12 != (0 : Int)) then (some (((0 : Int), ((bs []), [])), false)) else (((bursarref12_Text.f (x7.2.2.2.1, (x7.2.2.2.2.1, (x10 :: x11))))).bind fun x13 => (bif (!((ByteArray.toList x13) == (ByteArray.toList x7.1))) then (some (((0 : Int), ((bs []), [])), false)) else (some ((x7.2.2.2.1, (x7.2.2.2.2.1, (x10 :: x11))), true))))))))))) | x4 :: x5 => (match x3.2.2.2.2.2.2.2 with | [] => (((bursarref12_Parse.l11 (x3.1, (x3.2.1, ((2 : Int), (x3.2.2.1, (x3.2.2.2.1, (x3.2.2.2.2.1, (x3.2.2.2.2.2.1, ((x4 :: x5), [])))))))))).bind fun x6 => (match x6 with | .inl x7 => (match x7.2.2.2 with | [] => (some ((x7.2.1, (x7.2.2.1, [])), x7.1)) | x8 :: x9 => (some ((x7.2.1, (x7.2.2.1, (x8 :: x9))), x7.1))) | .inr x7 => (match x7.2.2.2.2.2.1 with | [] => (match x7.2.2.2.2.2.2 with | [] => (((bursarref12_Check.f (x7.2.2.2.1, (x7.2.2.2.2.1, [])))).bind fun x8 => (bif (x8 != (0 : Int)) then (some (((0 : Int), ((bs []), [])), false)) else (((bursarref12_Text.f (x7.2.2.2.1, (x7.2.2.2.2.1, [])))).bind fun x9 => (bif (!((ByteArray.toList x9) == (ByteArray.toList x7.1))) then (some (((0 : Int), ((bs []), [])), false)) else (some ((x7.2.2.2.1, (x7.2.2.2.2.1, [])), true)))))) | x8 :: x9 => (((bursarref12_Check.f (x7.2.2.2.1, (x7.2.2.2.2.1, (x8 :: x9))))).bind fun x10 => (bif (x10 != (0 : Int)) then (some (((0 : Int), ((bs []), [])), false)) else (((bursarref12_Text.f (x7.2.2.2.1, (x7.2.2.2.2.1, (x8 :: x9))))).bind fun x11 => (bif (!((ByteArray.toList x11) == (ByteArray.toList x7.1))) then (some (((0 : Int), ((bs []), [])), false)) else (some ((x7.2.2.2.1, (x7.2.2.2.2.1, (x8 :: x9))), true))))))) | x8 :: x9 => (match x7.2.2.2.2.2.2 with | [] => (((bursarref12_Check.f (x7.2.2.2.1, (x7.2.2.2.2.1, [])))).bind fun x10 => (bif (x10 != (0 : Int)) then (some (((0 : Int), ((bs []), [])), false)) else (((bursarref12_Text.f (x7.2.2.2.1, (x7.2.2.2.2.1, [])))).bind fun x11 => (bif (!((ByteArray.toList x11) == (ByteArray.toList x7.1))) then (some (((0 : Int), ((bs []), [])), false)) else (some ((x7.2.2.2.1, (x7.2.2.2.2.1, [])), true)))))) | x10 :: x11 => (((bursarref12_Check.f (x7.2.2.2.1, (x7.2.2.2.2.1, (x10 :: x11))))).bind fun x12 => (bif (x12 != (0 : Int)) then (some (((0 : Int), ((bs []), [])), false)) else (((bursarref12_Text.f (x7.2.2.2.1, (x7.2.2.2.2.1, (x10 :: x11))))).bind fun x13 => (bif (!((ByteArray.toList x13) == (ByteArray.toList x7.1))) then (some (((0 : Int), ((bs []), [])), false)) else (some ((x7.2.2.2.1, (x7.2.2.2.2.1, (x10 :: x11))), true)))))))))) | x6 :: x7 => (((bursarref12_Parse.l11 (x3.1, (x3.2.1, ((2 : Int), (x3.2.2.1, (x3.2.2.2.1, (x3.2.2.2.2.1, (x3.2.2.2.2.2.1, ((x4 :: x5), (x6 :: x7))))))))))).bind fun x8 => (match x8 with | .inl x9 => (match x9.2.2.2 with | [] => (some ((x9.2.1, (x9.2.2.1, [])), x9.1)) | x10 :: x11 => (some ((x9.2.1, (x9.2.2.1, (x10 :: x11))), x9.1))) | .inr x9 => (match x9.2.2.2.2.2.1 with | [] => (match x9.2.2.2.2.2.2 with | [] => (((bursarref12_Check.f (x9.2.2.2.1, (x9.2.2.2.2.1, [])))).bind fun x10 => (bif (x10 != (0 : Int)) then (some (((0 : Int), ((bs []), [])), false)) else (((bursarref12_Text.f (x9.2.2.2.1, (x9.2.2.2.2.1, [])))).bind fun x11 => (bif (!((ByteArray.toList x11) == (ByteArray.toList x9.1))) then (some (((0 : Int), ((bs []), [])), false)) else (some ((x9.2.2.2.1, (x9.2.2.2.2.1, [])), true)))))) | x10 :: x11 => (((bursarref12_Check.f (x9.2.2.2.1, (x9.2.2.2.2.1, (x10 :: x11))))).bind fun x12 => (bif (x12 != (0 : Int)) then (some (((0 : Int), ((bs []), [])), false)) else (((bursarref12_Text.f (x9.2.2.2.1, (x9.2.2.2.2.1, (x10 :: x11))))).bind fun x13 => (bif (!((ByteArray.toList x13) == (ByteArray.toList x9.1))) then (some (((0 : Int), ((bs []), [])), false)) else (some ((x9.2.2.2.1, (x9.2.2.2.2.1, (x10 :: x11))), true))))))) | x10 :: x11 => (match x9.2.2.2.2.2.2 with | [] => (((bursarref12_Check.f (x9.2.2.2.1, (x9.2.2.2.2.1, [])))).bind fun x12 => (bif (x12 != (0 : Int)) then (some (((0 : Int), ((bs []), [])), false)) else (((bursarref12_Text.f (x9.2.2.2.1, (x9.2.2.2.2.1, [])))).bind fun x13 => (bif (!((ByteArray.toList x13) == (ByteArray.toList x9.1))) then (some (((0 : Int), ((bs []), [])), false)) else (some ((x9.2.2.2.1, (x9.2.2.2.2.1, [])), true)))))) | x12 :: x13 => (((bursarref12_Check.f (x9.2.2.2.1, (x9.2.2.2.2.1, (x12 :: x13))))).bind fun x14 => (bif (x14 != (0 : Int)) then (some (((0 : Int), ((bs []), [])), false)) else (((bursarref12_Text.f (x9.2.2.2.1, (x9.2.2.2.2.1, (x12 :: x13))))).bind fun x15 => (bif (!((ByteArray.toList x15) == (ByteArray.toList x9.1))) then (some (((0 : Int), ((bs []), [])), false)) else (some ((x9.2.2.2.1, (x9.2.2.2.2.1, (x12 :: x13))), true)))))))))))))) else none)) else none)))
theorem bursarref12_Parse.ok : ∀ a : Vals bursarref12_Parse.As.tys, fnK P bursarref12_Parse.H (lp [(8, (NodeT.summ ⟨bursarref12_Parse.sh8, bursarref12_Parse.os8, bursarref12_Parse.l8⟩ 0)), (11, (NodeT.summ ⟨bursarref12_Parse.sh11, bursarref12_Parse.os11, bursarref12_Parse.l11⟩ 0))]) 9 bursarref12_Parse.As bursarref12_Parse.m a some = bursarref12_Parse.f a := fun a => by kernel_rfl
noncomputable abbrev bursarref12_Parse.row : Row := fnRow 9 bursarref12_Parse.As bursarref12_Parse.m bursarref12_Parse.f
theorem bursarref12_Parse.row_ok : RowOK P G0 bursarref12_Parse.row := row_told bursarref12_Parse.hok (lp_of (l := [(8, (NodeT.summ ⟨bursarref12_Parse.sh8, bursarref12_Parse.os8, bursarref12_Parse.l8⟩ 0)), (11, (NodeT.summ ⟨bursarref12_Parse.sh11, bursarref12_Parse.os11, bursarref12_Parse.l11⟩ 0))]) ⟨(loop_sum bursarref12_Parse.hok (by kernel_rfl) (by kernel_rfl) (l := []) trivial bursarref12_Parse.sh8 bursarref12_Parse.os8 (by kernel_rfl) bursarref12_Parse.t8 bursarref12_Parse.t8_ok), ⟨(loop_sum bursarref12_Parse.hok (by kernel_rfl) (by kernel_rfl) (l := []) trivial bursarref12_Parse.sh11 bursarref12_Parse.os11 (by kernel_rfl) bursarref12_Parse.t11 bursarref12_Parse.t11_ok), trivial⟩⟩) (fun _ => rfl) bursarref12_Parse.ok
end Go.Proofs.YtcadnpdhiolmfaaDoor
end
section
set_option linter.unusedVariables false
set_option linter.unusedSimpArgs false
set_option maxRecDepth 10000
namespace Go.Proofs.YtcadnpdhiolmfaaDoor
open Go Go.Fw
theorem decP_zero (k : Nat) : decP k 0 = [] := by cases k <;> simp [decP]
theorem dig_loop : ∀ (k n : Nat) (l : List UInt8), n < 10 ^ (k + 1) → n ≤ 2147483647 → l.length + k ≤ 100 → bursarref12_Digits.l3 ((n : Int), bs l) = some (bs (decP k (n / 10) ++ l))
  | 0, n, l, h, h2, hl => by
    unfold bursarref12_Digits.l3
    rw [rounds_end (r := bs l)]
    · rfl
    · simp only [bursarref12_Digits.t3, decide_eq_false (show ¬ (n : Int) > 9 by omega), cond_false]
  | k + 1, n, l, h, h2, hl => by
    by_cases h9 : n ≤ 9
    · unfold bursarref12_Digits.l3
      rw [rounds_end (r := bs l), show n / 10 = 0 by omega, decP_zero]
      · rfl
      · simp only [bursarref12_Digits.t3, decide_eq_false (show ¬ (n : Int) > 9 by omega), cond_false]
    · have ih := dig_loop k (n / 10) (dgt (n / 10 % 10) :: l) (by have : 10 ^ (k + 1 + 1) = 10 ^ (k + 1) * 10 := Nat.pow_succ ..; omega) (by omega) (by simp; omega)
      have e1 : IntKind.wrap .i64 (Int.tdiv (n : Int) 10) = ((n / 10 : Nat) : Int) := by
        rw [show Int.tdiv (n : Int) 10 = ((n / 10 : Nat) : Int) from (Int.ofNat_tdiv n 10).symm, wrap_i64 (by omega) (by omega)]
      have e2 : IntKind.wrap .u8 (IntKind.wrap .i64 ((48 : Int) + (Int.tmod ((n / 10 : Nat) : Int) (10 : Int)))) = ((48 + n / 10 % 10 : Nat) : Int) := by
        rw [show Int.tmod ((n / 10 : Nat) : Int) 10 = ((n / 10 % 10 : Nat) : Int) from (Int.ofNat_tmod (n / 10) 10).symm, wrap_i64 (by omega) (by omega), wrap_u8]; omega
      have e3 : (ByteArray.mk (List.toArray (List.map (fun y2 => (UInt8.ofNat (Int.toNat y2))) [((48 + n / 10 % 10 : Nat) : Int)]))) = bs [dgt (n / 10 % 10)] := by
        show bs [UInt8.ofNat (Int.toNat ((48 + n / 10 % 10 : Nat) : Int))] = _
        rw [Int.toNat_natCast]
      unfold bursarref12_Digits.l3 at ih ⊢
      rw [rounds_next (s' := (((n / 10 : Nat) : Int), bs (dgt (n / 10 % 10) :: l))), ih]
      · have : decP (k + 1) (n / 10) = decP k (n / 10 / 10) ++ [dgt (n / 10 % 10)] := by
          conv => lhs; unfold decP
          rw [if_neg (by omega)]
        rw [this]; simp
      · simp only [bursarref12_Digits.t3, decide_eq_true (show (n : Int) > 9 by omega), cond_true, e1, e2, e3, bs_append, bs_size]
        rw [Nat.ble_eq_true_of_le (by simp; omega)]
        rfl
theorem Digits_is {n : Nat} (h : n ≤ 2147483647) : bursarref12_Digits.f (n : Int) = some (bs (numL n)) := by
  have e2 : IntKind.wrap .u8 (IntKind.wrap .i64 ((48 : Int) + (Int.tmod ((n : Nat) : Int) (10 : Int)))) = ((48 + n % 10 : Nat) : Int) := by
    rw [show Int.tmod ((n : Nat) : Int) 10 = ((n % 10 : Nat) : Int) from (Int.ofNat_tmod n 10).symm, wrap_i64 (by omega) (by omega), wrap_u8]; omega
  have e3 : (ByteArray.mk (List.toArray (List.map (fun y2 => (UInt8.ofNat (Int.toNat y2))) [((48 + n % 10 : Nat) : Int)]))) = bs [dgt (n % 10)] := by
    show bs [UInt8.ofNat (Int.toNat ((48 + n % 10 : Nat) : Int))] = _
    rw [Int.toNat_natCast]
  have t20 : (10 : Nat) ^ (19 + 1) = 100000000000000000000 := by decide
  unfold bursarref12_Digits.f
  rw [e2, e3, dig_loop 19 n _ (by omega) h (by simp)]
  rfl
theorem numL_len10 {n : Nat} (h : n ≤ 2147483647) : (numL n).length ≤ 10 := by
  unfold numL
  have : (decP 19 (n / 10)).length ≤ 9 := by
    have key : ∀ (k m : Nat), m < 10 ^ 9 → (decP k m).length ≤ 9 := by
      have gen : ∀ (j k m : Nat), m < 10 ^ j → (decP k m).length ≤ j := by
        intro j
        induction j with
        | zero =>
          intro k m hm
          have : m = 0 := by simpa using hm
          subst this
          rw [decP_zero]; simp
        | succ j ih =>
          intro k m hm
          cases k with
          | zero => simp [decP]
          | succ k =>
            unfold decP
            split
            · simp
            · have := ih k (m / 10) (by have : 10 ^ (j + 1) = 10 ^ j * 10 := Nat.pow_succ ..; omega)
              simp; omega
      exact gen 9
    have t9 : (10 : Nat) ^ 9 = 1000000000 := by decide
    exact key 19 (n / 10) (by omega)
  simp; omega
theorem lineT_len {y : Lin} (h : maySB y.1 = true) : (lineT y).length ≤ 50 := by
  have h1 := (nameL_len h).1
  have h2 := txt_len y.2
  unfold lineT
  simp; omega
theorem spaced_len : ∀ (l : List Lin), (∀ y ∈ l, maySB y.1 = true) → (spaced (l.map lineT)).length ≤ 51 * l.length
  | [], _ => by simp [spaced]
  | y :: l, h => by
    have h1 := lineT_len (h y (List.mem_cons_self ..))
    have h2 := spaced_len l fun z hz => h z (List.mem_cons_of_mem _ hz)
    rw [List.map_cons, spaced_cons, List.length_cons, List.length_append, List.length_cons]
    omega
theorem refText12_is {x : Ent} (hc : checkE x = 0) (hg : goodL x.2.2) : bursarref12_Text.f x = some (bs (textE x)) := by
  obtain ⟨h1, h2, h3, h4, h5, h6, _⟩ := checkE_ok hc
  obtain ⟨b, r, L⟩ := x
  have h1 : 0 ≤ b := h1
  have h2 : b ≤ 2147483647 := h2
  have h5 : L.length ≤ 8 := h5
  have h6 : okLines L = true := h6
  have hg : goodL L := hg
  have hr : r.size ≤ 20 := by
    have h3 : okRef r = true := h3
    unfold okRef at h3
    simp only [Bool.and_eq_true, decide_eq_true_eq] at h3
    exact h3.1
  obtain ⟨n, rfl⟩ : ∃ n : Nat, b = (n : Int) := ⟨b.toNat, by omega⟩
  obtain ⟨R, rfl⟩ : ∃ R, r = bs R := ⟨_, eq_bs r⟩
  rw [bs_size] at hr
  have hn := numL_len10 (n := n) (by omega)
  have hm := okLines_mem h6
  obtain ⟨p, hp⟩ : ∃ p, numL n ++ 32 :: R = p := ⟨_, rfl⟩
  have hpl : p.length ≤ 40 := by rw [← hp]; simp; omega
  have hloop := rounds_to (t := bursarref12_Text.t4) (fun i => (bs (p ++ spaced ((L.take i).map lineT)), ((i : Nat) : Int), (n : Int), bs R, L)) L.length (fun i hi => by
    have hz : L.getD i zL ∈ L := by rw [getD_at hi]; exact List.getElem_mem hi
    have hmz := hm _ hz
    have ha := (hg _ hz).2.2
    have hsl := spaced_len (L.take i) fun y hy => hm y (List.mem_of_mem_take hy)
    have hll : (L.take i).length ≤ 8 := by simp; omega
    rw [take_up zL hi, List.map_append, spaced_app]
    obtain ⟨z, hzz⟩ : ∃ z, L.getD i zL = z := ⟨_, rfl⟩
    rw [hzz] at hmz ha ⊢
    have hnm : nameT z.1 = bs (nameL z.1) := by unfold nameT nameL; rw [hmz]; rfl
    have hl1 := (nameL_len hmz).1
    have hl2 := txt_len z.2
    have hs1 : spaced (List.map lineT [z]) = 32 :: (nameL z.1 ++ 61 :: txt z.2) := by simp [spaced, lineT]
    simp only [bursarref12_Text.t4, inb hi, cond_true, ge0' i, Bool.and_self, Int.toNat_natCast, dflt_line, hzz, refName_is, Option.bind_some, hnm, bs_size, bs_append, ref_Text_is ha, wrap_up (show i < 9223372036854775807 by omega), List.length_append, List.length_cons, List.length_nil]
    rw [Nat.ble_eq_true_of_le (by omega), cond_true, Nat.ble_eq_true_of_le (by omega), cond_true, Nat.ble_eq_true_of_le (by omega), cond_true, Nat.ble_eq_true_of_le (by omega), cond_true, hs1]
    simp)
  have hl4 : bursarref12_Text.l4 (bs p, (0 : Int), (n : Int), bs R, L) = some (bs (p ++ spaced (L.map lineT))) := by
    have e0 : bs (p ++ spaced ((L.take 0).map lineT)) = bs p := by simp [spaced]
    have e := hloop
    simp only [e0] at e
    have e' : bursarref12_Text.l4 (bs p, (0 : Int), (n : Int), bs R, L) = _ := e
    rw [e', rounds_end (r := bs (p ++ spaced ((L.take L.length).map lineT)))]
    · rw [List.take_length]
    · simp only [bursarref12_Text.t4, outb, cond_false]
  unfold bursarref12_Text.f textE
  simp only [Digits_is (show n ≤ 2147483647 by omega), Option.bind_some, bs_append, bs_size, List.length_append, List.length_cons, List.length_nil]
  rw [Nat.ble_eq_true_of_le (by omega), cond_true, Nat.ble_eq_true_of_le (by omega), cond_true, show numL n ++ [32] ++ R = p by rw [← hp]; simp, hl4, Option.bind_some, ← hp]
  simp [bs_list]
end Go.Proofs.YtcadnpdhiolmfaaDoor
end
section
set_option linter.unusedVariables false
set_option maxRecDepth 100000
namespace Go.Proofs.YtcadnpdhiolmfaaDoor
open Go Go.Fw
abbrev bursarlaw12_awake.row : Row := closedRow 11 (.b true)
theorem bursarlaw12_awake.row_ok : RowOK P G0 bursarlaw12_awake.row := closed_ok e0_ok j0_ok (T := [strconv_Itoa.row, chart_letters.row, strconv_FormatUint.row]) ⟨strconv_Itoa.row_ok, ⟨chart_letters.row_ok, ⟨strconv_FormatUint.row_ok, trivial⟩⟩⟩ 200 (by kernel_rfl)
abbrev bursarlaw12_EntryChecks.As : Shs := (.cons (.x T_api_Entry) (.cons (.x .s) .nil))
abbrev bursarlaw12_EntryChecks.m : Back := [(false, .b)]
noncomputable abbrev bursarlaw12_EntryChecks.H : HK := hk P G1 E0 J0 [bursarlaw12_Few.row, bursarref12_Check.row, entry_Text.row, entry_Check.row, entry_Parse.row, bursarref12_Parse.row, bursarref12_Same.row, bursarlaw12_awake.row, bursarref12_Text.row] noLoops 4
theorem bursarlaw12_EntryChecks.rows : TabOK P G1 (tabF [bursarlaw12_Few.row, bursarref12_Check.row, entry_Text.row, entry_Check.row, entry_Parse.row, bursarref12_Parse.row, bursarref12_Same.row, bursarlaw12_awake.row, bursarref12_Text.row]) := rows_ok (ws := [bursarlaw12_Few.row, bursarref12_Check.row, entry_Text.row, entry_Check.row, entry_Parse.row, bursarref12_Parse.row, bursarref12_Same.row, bursarlaw12_awake.row, bursarref12_Text.row]) ⟨(bursarlaw12_Few.row_ok.more g01), ⟨(bursarref12_Check.row_ok.more g01), ⟨(entry_Text.row_ok.more g01), ⟨(entry_Check.row_ok.more g01), ⟨entry_Parse.row_ok, ⟨(bursarref12_Parse.row_ok.more g01), ⟨(bursarref12_Same.row_ok.more g01), ⟨(bursarlaw12_awake.row_ok.more g01), ⟨(bursarref12_Text.row_ok.more g01), trivial⟩⟩⟩⟩⟩⟩⟩⟩⟩
theorem bursarlaw12_EntryChecks.hok : HKOK P bursarlaw12_EntryChecks.H := hk_ok e0_ok j0_ok bursarlaw12_EntryChecks.rows (fun g n => noLoops_ok g n) 4
noncomputable def bursarlaw12_EntryChecks.f (a : ((Int × (ByteArray × (List ((Int × ByteArray) × Int)))) × ByteArray)) : Option Bool := (((bursarlaw12_Few.f a.1)).bind fun x2 => (bif (decide (((a.2.size : Int) > (300 : Int)))) then (bif (true && (decide (((300 : Int) ≤ (a.2.size : Int))))) then (((bursarref12_Check.f x2)).bind fun x3 => (((entry_Text.f x2)).bind fun x4 => (((entry_Check.f x2)).bind fun x5 => (bif (x5 != x3) then (some false) else (bif (x4.2 != x3) then (some false) else (((entry_Parse.f (ByteArray.extract a.2 0 300))).bind fun x6 => (((bursarref12_Parse.f (ByteArray.extract a.2 0 300))).bind fun x7 => (((bursarref12_Same.f (x6.1, x7.1))).bind fun x8 => (bif (!x8) then (some false) else (bif (!((x6.2 == (0 : Int)) == x7.2)) then (some false) else (bif (!x7.2) then (bif (x6.2 != (4 : Int)) then (some false) else (bif (x3 != (0 : Int)) then (bif ((ByteArray.toList x4.1) == []) then (some true) else (some false)) else (((entry_Parse.f x4.1)).bind fun x9 => (((bursarref12_Text.f x2)).bind fun x10 => (bif ((ByteArray.toList x4.1) == (ByteArray.toList x10)) then (((bursarref12_Same.f (x9.1, x2))).bind fun x11 => (bif x11 then (bif (x9.2 == (0 : Int)) then (some true) else (some false)) else (some false))) else (some false)))))) else (bif (x3 != (0 : Int)) then (bif ((ByteArray.toList x4.1) == []) then (some true) else (some false)) else (((entry_Parse.f x4.1)).bind fun x9 => (((bursarref12_Text.f x2)).bind fun x10 => (bif ((ByteArray.toList x4.1) == (ByteArray.toList x10)) then (((bursarref12_Same.f (x9.1, x2))).bind fun x11 => (bif x11 then (bif (x9.2 == (0 : Int)) then (some true) else (some false)) else (some false))) else (some false)))))))))))))))) else none) else (((bursarref12_Check.f x2)).bind fun x3 => (((entry_Text.f x2)).bind fun x4 => (((entry_Check.f x2)).bind fun x5 => (bif (x5 != x3) then (some false) else (bif (x4.2 != x3) then (some false) else (((entry_Parse.f a.2)).bind fun x6 => (((bursarref12_Parse.f a.2)).bind fun x7 => (((bursarref12_Same.f (x6.1, x7.1))).bind fun x8 => (bif (!x8) then (some false) else (bif (!((x6.2 == (0 : Int)) == x7.2)) then (some false) else (bif (!x7.2) then (bif (x6.2 != (4 : Int)) then (some false) else (bif (x3 != (0 : Int)) then (bif ((ByteArray.toList x4.1) == []) then (some true) else (some false)) else (((entry_Parse.f x4.1)).bind fun x9 => (((bursarref12_Text.f x2)).bind fun x10 => (bif ((ByteArray.toList x4.1) == (ByteArray.toList x10)) then (((bursarref12_Same.f (x9.1, x2))).bind fun x11 => (bif x11 then (bif (x9.2 == (0 : Int)) then (some true) else (some false)) else (some false))) else (some false)))))) else (bif (x3 != (0 : Int)) then (bif ((ByteArray.toList x4.1) == []) then (some true) else (some false)) else (((entry_Parse.f x4.1)).bind fun x9 => (((bursarref12_Text.f x2)).bind fun x10 => (bif ((ByteArray.toList x4.1) == (ByteArray.toList x10)) then (((bursarref12_Same.f (x9.1, x2))).bind fun x11 => (bif x11 then (bif (x9.2 == (0 : Int)) then (some true) else (some false)) else (some false))) else (some false))))))))))))))))))
theorem bursarlaw12_EntryChecks.ok : ∀ a : Vals bursarlaw12_EntryChecks.As.tys, fnK P bursarlaw12_EntryChecks.H (lp []) 3 bursarlaw12_EntryChecks.As bursarlaw12_EntryChecks.m a some = bursarlaw12_EntryChecks.f a := fun a => by kernel_rfl
noncomputable abbrev bursarlaw12_EntryChecks.row : Row := fnRow 3 bursarlaw12_EntryChecks.As bursarlaw12_EntryChecks.m bursarlaw12_EntryChecks.f
theorem bursarlaw12_EntryChecks.row_ok : RowOK P G1 bursarlaw12_EntryChecks.row := row_told bursarlaw12_EntryChecks.hok (lp_of (l := []) trivial) (fun _ => rfl) bursarlaw12_EntryChecks.ok
end Go.Proofs.YtcadnpdhiolmfaaDoor
end
section
set_option linter.unusedVariables false
set_option linter.unusedSimpArgs false
set_option maxRecDepth 10000
set_option maxHeartbeats 1000000
namespace Go.Proofs.YtcadnpdhiolmfaaDoor
open Go Go.Fw
def isD (c : UInt8) : Bool := decide (48 ≤ c.toNat) && decide (c.toNat ≤ 57)
def valS (a : Nat) (c : UInt8) : Nat := a * 10 + (c.toNat - 48)
theorem dig8 {a : ByteArray} {ws : List ByteArray} {w : List UInt8} {r : ByteArray} (h0 : 0 < ws.length) (hw : ws.getD 0 (bs []) = bs w) (hl : w.length ≤ 10) : ∀ (t : List UInt8) (i b : Nat), w.drop i = t → i ≤ w.length → b < 10 ^ i →
    bursarref12_Parse.l8 (a, ws, (i : Int), 0, bs [], (b : Int), r, [], []) = some (bif t.all isD then .inr (a, ws, 0, bs [], ((t.foldl valS b : Nat) : Int), r, [], []) else .inl (false, 0, bs [], []))
  | [], i, b, h, hi, hb => by
    have hle := congrArg List.length h
    simp only [List.length_drop, List.length_nil] at hle
    unfold bursarref12_Parse.l8
    rw [rounds_end (r := .inr (a, ws, 0, bs [], ((b : Nat) : Int), r, [], []))]
    · rfl
    · simp only [bursarref12_Parse.t8, decide_eq_true (show (0 : Int) < (ws.length : Int) by omega), Bool.and_self, cond_true, hw, bs_size, decide_eq_false (show ¬ (i : Int) < (w.length : Int) by omega), cond_false]
  | c :: t, i, b, h, hi, hb => by
    obtain ⟨g1, g2, g3⟩ := drop_cons 0 h
    have hb10 : b < 10 ^ 9 := Nat.lt_of_lt_of_le hb (Nat.pow_le_pow_right (by omega) (by omega))
    have t9 : (10 : Nat) ^ 9 = 1000000000 := by decide
    have hbt : bt (bs w) i = (c.toNat : Int) := by rw [bt_bs, g1]
    have hc255 : c.toNat < 256 := c.toNat_lt
    have d0 : decide ((0 : Int) < (ws.length : Int)) = true := decide_eq_true (by omega)
    have d1 : decide ((i : Int) < (w.length : Int)) = true := decide_eq_true (by omega)
    by_cases hd : isD c = true
    · have hd' : 48 ≤ c.toNat ∧ c.toNat ≤ 57 := by
        unfold isD at hd
        simpa using hd
      have ih := dig8 (a := a) (r := r) h0 hw hl t (i + 1) (valS b c) g2 (by omega) (by unfold valS; have : 10 ^ (i + 1) = 10 ^ i * 10 := Nat.pow_succ ..; omega)
      have e1 : IntKind.wrap .i64 (10 * (b : Int)) = ((10 * b : Nat) : Int) := by rw [wrap_i64 (by omega) (by omega)]; omega
      have e2 : IntKind.wrap .i64 (c.toNat : Int) = (c.toNat : Int) := wrap_i64 (by omega) (by omega)
      have e3 : IntKind.wrap .i64 (((10 * b : Nat) : Int) + (c.toNat : Int)) = ((10 * b + c.toNat : Nat) : Int) := by rw [wrap_i64 (by omega) (by omega)]; omega
      have e4 : IntKind.wrap .i64 (((10 * b + c.toNat : Nat) : Int) - 48) = ((valS b c : Nat) : Int) := by unfold valS; rw [wrap_i64 (by omega) (by omega)]; omega
      unfold bursarref12_Parse.l8 at ih ⊢
      rw [rounds_next (s' := (a, ws, ((i + 1 : Nat) : Int), 0, bs [], ((valS b c : Nat) : Int), r, [], [])), ih]
      · rw [List.all_cons, hd, Bool.true_and]; rfl
      · simp only [bursarref12_Parse.t8, d0, Bool.and_self, cond_true, hw, bs_size, d1, ge0' i, Int.toNat_natCast, hbt, decide_eq_false (show ¬ (c.toNat : Int) < 48 by omega), decide_eq_false (show ¬ (c.toNat : Int) > 57 by omega), cond_false, wrap_up (show i < 9223372036854775807 by omega), e1, e2, e3, e4]
    · have hd0 : isD c = false := by simpa using hd
      have hd' : c.toNat < 48 ∨ 57 < c.toNat := by
        unfold isD at hd0
        simp only [Bool.and_eq_false_iff, decide_eq_false_iff_not] at hd0
        omega
      unfold bursarref12_Parse.l8
      rw [rounds_end (r := .inl (false, 0, bs [], [])), List.all_cons, hd0, Bool.false_and]
      · rfl
      · by_cases hlow : (c.toNat : Int) < 48
        · simp only [bursarref12_Parse.t8, d0, Bool.and_self, cond_true, hw, bs_size, d1, ge0' i, Int.toNat_natCast, hbt, decide_eq_true hlow]
        · simp only [bursarref12_Parse.t8, d0, Bool.and_self, cond_true, hw, bs_size, d1, ge0' i, Int.toNat_natCast, hbt, decide_eq_false hlow, cond_false, decide_eq_true (show (c.toNat : Int) > 57 by omega)]
def refLine (w : List UInt8) : Option Lin := match splitL 61 w with
  | [u, v] => match accP u with
    | some a => bif (refParse v).2 then some (a, (refParse v).1) else none
    | none => none
  | _ => none
def refLines : List (List UInt8) → Option (List Lin)
  | [] => some []
  | w :: ws => match refLine w with
    | some z => match refLines ws with
      | some L => some (z :: L)
      | none => none
    | none => none
theorem refLine_good {w : List UInt8} {z : Lin} (hw : w.length ≤ 900) (h : refLine w = some z) : (Lit.int .i64 z.1.1).wf = true ∧ z.1.2.size ≤ maxLen ∧ Am z.2 := by
  have hmax : (1000 : Nat) ≤ maxLen := by decide
  unfold refLine at h
  split at h
  · rename_i u v hs
    split at h
    · rename_i a ha
      cases hp : (refParse v).2
      · rw [hp] at h; cases h
      · rw [hp] at h
        injection h with h
        subst h
        obtain ⟨h1, h2⟩ := accP_ok ha
        have hu : u.length ≤ w.length := parts_len 61 w u (by rw [hs]; simp)
        have hsz : a.2.size + 1 = u.length := by rw [← h2]; rfl
        obtain ⟨v', hv, _, he⟩ := refParse_only hp
        refine ⟨?_, by show a.2.size ≤ maxLen; omega, by rw [he]; exact hv⟩
        show (Lit.int .i64 a.1).wf = true
        rcases maySB_kind h1 with e | e | e | e <;> rw [e] <;> decide
    · cases h
  · cases h
theorem refLines_good : ∀ {ws : List (List UInt8)} {L : List Lin}, (∀ w ∈ ws, w.length ≤ 900) → refLines ws = some L → goodL L ∧ L.length = ws.length
  | [], L, _, h => by
    injection h with h; subst h
    exact ⟨fun y hy => by simp at hy, rfl⟩
  | w :: ws, L, hw, h => by
    unfold refLines at h
    split at h
    · rename_i z hz
      split at h
      · rename_i L' hL
        injection h with h; subst h
        obtain ⟨h1, h2⟩ := refLines_good (fun x hx => hw x (List.mem_cons_of_mem _ hx)) hL
        refine ⟨fun y hy => ?_, by simp [h2]⟩
        rcases List.mem_cons.1 hy with rfl | hy
        · exact refLine_good (hw w (List.mem_cons_self ..)) hz
        · exact h1 y hy
      · cases h
    · cases h
theorem line11 {a : ByteArray} {W : List ByteArray} {i : Nat} {w : List UInt8} {b : Int} {r : ByteArray} {L : List Lin} (hi : i < W.length) (hW : W.length ≤ 1000) (hu : W.getD i (bs []) = bs w) (hl : w.length ≤ 900) (hL : L.length ≤ 1000) :
    bursarref12_Parse.t11 (a, W, (i : Int), 0, bs [], b, r, [], L) = some (match refLine w with | some z => .inl (a, W, ((i + 1 : Nat) : Int), 0, bs [], b, r, [], L ++ [z]) | none => .inr (.inl (false, 0, bs [], []))) := by
  have hcut := cut_is (l := w) (by omega) 61
  have hcut' : bursarref12_cut.f (bs w, (61 : Int)) = some ((splitL 61 w).map bs) := hcut
  have hlen := splitL_len 61 w
  have hparts := parts_len 61 w
  have n1 : Nat.ble ((L.length + 1) * 32) 140737488355328 = true := Nat.ble_eq_true_of_le (by omega)
  have n2 : Nat.ble (L.length + 1) 140737488355328 = true := Nat.ble_eq_true_of_le (by omega)
  unfold refLine
  obtain ⟨P, hP⟩ : ∃ P, splitL 61 w = P := ⟨_, rfl⟩
  rw [hP] at hcut' hlen hparts ⊢
  simp only [bursarref12_Parse.t11, inb hi, cond_true, ge0' i, Bool.and_self, Int.toNat_natCast, hu, hcut', Option.bind_some, List.length_map, map_getD, wrap_up (show i < 9223372036854775807 by omega), List.length_cons, List.length_nil, Nat.zero_add, n1, n2]
  match P with
  | [] => simp at hlen
  | [u] => rfl
  | u :: v :: x :: ps =>
    have : ((((u :: v :: x :: ps).length : Nat) : Int) != 2) = true := by simp; omega
    simp only [this, cond_true]
  | [u, v] =>
    have hu1 := hparts u (by simp)
    have hv1 := hparts v (by simp)
    have p1 := refParse11_is (l := u) (by omega)
    have p2 := ref_Parse_is (l := v) (by omega)
    have q0 : [u, v].getD 0 [] = u := rfl
    have q1 : [u, v].getD 1 [] = v := rfl
    have l2 : ((([u, v].length : Nat) : Int) != 2) = false := rfl
    have d0 : decide ((0 : Int) < (([u, v].length : Nat) : Int)) = true := rfl
    have d1 : decide ((1 : Int) < (([u, v].length : Nat) : Int)) = true := rfl
    simp only [l2, d0, d1, Bool.and_self, cond_true, cond_false, q0, q1, p1, p2, Option.bind_some]
    cases accP u with
    | none => rfl
    | some a' =>
      obtain ⟨n, t⟩ := refParse v
      cases t <;> rfl
theorem lines11 {a : ByteArray} {W : List ByteArray} {words : List (List UInt8)} {b : Int} {r : ByteArray} (hWw : W = words.map bs) (hW : W.length ≤ 1000) (hl : ∀ w ∈ words, w.length ≤ 900) : ∀ (ws : List (List UInt8)) (i : Nat) (L : List Lin), words.drop i = ws → i ≤ words.length → L.length + ws.length ≤ 1000 →
    bursarref12_Parse.l11 (a, W, (i : Int), 0, bs [], b, r, [], L) = some (match refLines ws with | some M => .inr (a, 0, bs [], b, r, [], L ++ M) | none => .inl (false, 0, bs [], []))
  | [], i, L, h, hi, _ => by
    have hle := congrArg List.length h
    simp only [List.length_drop, List.length_nil] at hle
    have hWl : W.length = words.length := by rw [hWw]; simp
    unfold bursarref12_Parse.l11
    rw [rounds_end (r := .inr (a, 0, bs [], b, r, [], L))]
    · simp [refLines]
    · simp only [bursarref12_Parse.t11, decide_eq_false (show ¬ (i : Int) < (W.length : Int) by omega), cond_false]
  | w :: ws, i, L, h, hi, hL => by
    obtain ⟨g1, g2, g3⟩ := drop_cons [] h
    have hWl : W.length = words.length := by rw [hWw]; simp
    have hu : W.getD i (bs []) = bs w := by rw [hWw, map_getD, g1]
    have hwm : w ∈ words := List.mem_of_mem_drop (by rw [h]; exact List.mem_cons_self ..)
    simp only [List.length_cons] at hL
    have hs := line11 (a := a) (b := b) (r := r) (L := L) (by omega) hW hu (hl w hwm) (by omega)
    unfold refLines
    cases hz : refLine w with
    | none =>
      rw [hz] at hs
      unfold bursarref12_Parse.l11
      rw [rounds_end hs]
    | some z =>
      rw [hz] at hs
      have ih := lines11 (a := a) (b := b) (r := r) hWw hW hl ws (i + 1) (L ++ [z]) g2 (by omega) (by simp; omega)
      unfold bursarref12_Parse.l11 at ih ⊢
      rw [rounds_next hs, ih]
      cases refLines ws with
      | none => rfl
      | some M => simp
def zE : Ent := (0, bs [], [])
theorem end12 {x : Ent} {l : List UInt8} (hg : goodL x.2.2) : ((bursarref12_Check.f x).bind fun x6 : Int => bif x6 != 0 then some (zE, false) else (bursarref12_Text.f x).bind fun x7 : ByteArray => bif !((ByteArray.toList x7) == (ByteArray.toList (bs l))) then some (zE, false) else some (x, true)) =
    some (bif checkE x == 0 && decide (textE x = l) then (x, true) else (zE, false)) := by
  rw [refCheck_is hg, Option.bind_some]
  cases hc : (checkE x == 0)
  · have : (checkE x != 0) = true := by unfold bne; rw [hc]; rfl
    rw [this]; rfl
  · have h0 : checkE x = 0 := by simpa using hc
    have : (checkE x != 0) = false := by unfold bne; rw [hc]; rfl
    rw [this, cond_false, refText12_is h0 hg, Option.bind_some, texts_eq]
    have : decide (bs (textE x) = bs l) = decide (textE x = l) := by
      rw [Bool.eq_iff_iff]; simp only [decide_eq_true_eq]; exact bs_inj
    rw [this, Bool.true_and]
    cases decide (textE x = l) <;> rfl
theorem refParse12_eq {l : List UInt8} (hl : l.length ≤ 900) : bursarref12_Parse.f (bs l) = some (bif decide ((splitL 32 l).length < 2) || (decide (((splitL 32 l).getD 0 []).length > 10) || !((splitL 32 l).getD 0 []).all isD) then (zE, false) else
    match refLines ((splitL 32 l).drop 2) with
    | some M => bif checkE (((((splitL 32 l).getD 0 []).foldl valS 0 : Nat) : Int), bs ((splitL 32 l).getD 1 []), M) == 0 && decide (textE (((((splitL 32 l).getD 0 []).foldl valS 0 : Nat) : Int), bs ((splitL 32 l).getD 1 []), M) = l) then ((((((splitL 32 l).getD 0 []).foldl valS 0 : Nat) : Int), bs ((splitL 32 l).getD 1 []), M), true) else (zE, false)
    | none => (zE, false)) := by
  have hcut := cut_is (l := l) (by omega) 32
  have hcut' : bursarref12_cut.f (bs l, (32 : Int)) = some ((splitL 32 l).map bs) := hcut
  have hlen := splitL_len 32 l
  have hcnt := cntL_le 32 l
  have hparts := parts_len 32 l
  obtain ⟨ws, hws⟩ : ∃ ws, splitL 32 l = ws := ⟨_, rfl⟩
  rw [hws] at hcut' hlen hparts ⊢
  unfold bursarref12_Parse.f
  rw [hcut', Option.bind_some]
  by_cases h2 : ws.length < 2
  · rw [List.length_map, decide_eq_true (show (ws.length : Int) < 2 by omega), decide_eq_true h2]; rfl
  have hd0 : decide ((0 : Int) < (ws.length : Int)) = true := decide_eq_true (by omega)
  have hd1 : decide ((1 : Int) < (ws.length : Int)) = true := decide_eq_true (by omega)
  simp only [List.length_map, decide_eq_false (show ¬ (ws.length : Int) < 2 by omega), decide_eq_false h2, hd0, hd1, Bool.and_self, cond_true, cond_false, map_getD, bs_size, Bool.false_or]
  obtain ⟨w0, hw0⟩ : ∃ w, ws.getD 0 [] = w := ⟨_, rfl⟩
  obtain ⟨w1, hw1⟩ : ∃ w, ws.getD 1 [] = w := ⟨_, rfl⟩
  rw [hw0, hw1]
  by_cases h10 : w0.length > 10
  · rw [decide_eq_true (show (w0.length : Int) > 10 by omega), decide_eq_true h10]; rfl
  simp only [decide_eq_false (show ¬ (w0.length : Int) > 10 by omega), decide_eq_false h10, cond_false, Bool.false_or]
  have h8 := dig8 (a := bs l) (r := bs w1) (ws := ws.map bs) (w := w0) (by simp; omega) (by rw [map_getD, hw0]) (by omega) w0 0 0 rfl (by omega) (by simp)
  have h8' : bursarref12_Parse.l8 (bs l, ws.map bs, (0 : Int), 0, bs [], (0 : Int), bs w1, [], []) = _ := h8
  rw [h8']
  cases hall : w0.all isD
  · rfl
  · simp only [cond_true, Option.bind_some, Bool.not_true, cond_false]
    have h11 := lines11 (a := bs l) (b := ((w0.foldl valS 0 : Nat) : Int)) (r := bs w1) (W := ws.map bs) (words := ws) rfl (by simp; omega) (fun w hw => by have := hparts w hw; omega) (ws.drop 2) 2 [] rfl (by omega) (by simp; omega)
    have h11' : bursarref12_Parse.l11 (bs l, ws.map bs, (2 : Int), 0, bs [], ((w0.foldl valS 0 : Nat) : Int), bs w1, [], []) = _ := h11
    rw [h11']
    cases hM : refLines (ws.drop 2) with
    | none => rfl
    | some M =>
      have hg := (refLines_good (fun w hw => by have := hparts w (List.mem_of_mem_drop hw); omega) hM).1
      have he := end12 (x := (((w0.foldl valS 0 : Nat) : Int), bs w1, M)) (l := l) hg
      simp only [List.nil_append, Option.bind_some]
      cases M with
      | nil => exact he
      | cons y M => exact he
theorem val_decP : ∀ (k n : Nat), n < 10 ^ k → (decP k n).foldl valS 0 = n
  | 0, n, h => by
    have : n = 0 := by simpa using h
    subst this; rfl
  | k + 1, n, h => by
    unfold decP
    split
    · rename_i h0; subst h0; rfl
    · rw [List.foldl_append, val_decP k (n / 10) (by have : 10 ^ (k + 1) = 10 ^ k * 10 := Nat.pow_succ ..; omega), List.foldl_cons, List.foldl_nil]
      unfold valS
      rw [dgt_nat (by omega)]
      omega
theorem val_num {n : Nat} (h : n ≤ 2147483647) : (numL n).foldl valS 0 = n ∧ (numL n).all isD = true := by
  constructor
  · have t19 : (10 : Nat) ^ 19 = 10000000000000000000 := by decide
    unfold numL
    rw [List.foldl_append, val_decP 19 (n / 10) (by omega), List.foldl_cons, List.foldl_nil]
    unfold valS
    rw [dgt_nat (by omega)]
    omega
  · rw [List.all_eq_true]
    intro c hc
    have : 48 ≤ c.toNat ∧ c.toNat ≤ 57 := by
      unfold numL at hc
      rcases List.mem_append.1 hc with hc | hc
      · exact decP_dig 19 _ c hc
      · rw [List.mem_singleton.1 hc, dgt_nat (by omega)]; omega
    unfold isD
    rw [decide_eq_true this.1, decide_eq_true this.2]; rfl
theorem refLine_back {z : Lin} (hz : maySB z.1 = true) (ha : Am z.2) : refLine (lineT z) = some z := by
  have hs : splitL 61 (lineT z) = [nameL z.1, txt z.2] := by
    unfold lineT
    rw [splitL_sep 61 _ _ fun c hc => (nameL_no hz c hc).2, splitL_one 61 _ fun c hc => (txt_no c hc).2]
  unfold refLine
  rw [hs]
  simp only [accP_name hz, refParse_txt ha, cond_true]
theorem refLines_back : ∀ (L : List Lin), (∀ z ∈ L, maySB z.1 = true ∧ Am z.2) → refLines (L.map lineT) = some L
  | [], _ => rfl
  | z :: L, h => by
    obtain ⟨h1, h2⟩ := h z (List.mem_cons_self ..)
    rw [List.map_cons, refLines, refLine_back h1 h2, refLines_back L fun y hy => h y (List.mem_cons_of_mem _ hy)]
theorem textE_len {y : Ent} (hc : checkE y = 0) : (textE y).length ≤ 900 := by
  obtain ⟨h1, h2, h3, h4, h5, h6, _⟩ := checkE_ok hc
  have hr : y.2.1.size ≤ 20 := by
    unfold okRef at h3
    simp only [Bool.and_eq_true, decide_eq_true_eq] at h3
    exact h3.1
  have hr' : y.2.1.data.toList.length ≤ 20 := hr
  have hn := numL_len10 (n := y.1.toNat) (by omega)
  have hs := spaced_len y.2.2 (okLines_mem h6)
  unfold textE
  simp only [List.length_append, List.length_cons]
  omega
theorem back12 {y : Ent} (hc : checkE y = 0) (hg : goodL y.2.2) : bursarref12_Parse.f (bs (textE y)) = some (y, true) ∧ entry_Parse.f (bs (textE y)) = some (y, 0) := by
  obtain ⟨h1, h2, h3, h4, h5, h6, _⟩ := checkE_ok hc
  have hl := textE_len hc
  obtain ⟨v1, v2⟩ := val_num (n := y.1.toNat) (by omega)
  have hn := numL_len10 (n := y.1.toNat) (by omega)
  constructor
  · rw [refParse12_eq hl, words_of hc]
    have e0 : (numL y.1.toNat :: y.2.1.data.toList :: y.2.2.map lineT).getD 0 [] = numL y.1.toNat := rfl
    have e1 : (numL y.1.toNat :: y.2.1.data.toList :: y.2.2.map lineT).getD 1 [] = y.2.1.data.toList := rfl
    have e2 : (numL y.1.toNat :: y.2.1.data.toList :: y.2.2.map lineT).drop 2 = y.2.2.map lineT := rfl
    have e3 : ((y.1.toNat : Nat) : Int) = y.1 := by omega
    have e4 : bs y.2.1.data.toList = y.2.1 := (eq_bs _).symm
    rw [e0, e1, e2, refLines_back y.2.2 fun z hz => ⟨okLines_mem h6 z hz, (hg z hz).2.2⟩, v1, v2, e3, e4]
    rw [decide_eq_false (show ¬ (numL y.1.toNat :: y.2.1.data.toList :: y.2.2.map lineT).length < 2 by simp), decide_eq_false (show ¬ (numL y.1.toNat).length > 10 by omega)]
    simp only [Bool.not_true, Bool.or_self, cond_false, hc, BEq.rfl, decide_true, Bool.and_self, cond_true]
  · rw [entParse_is hl, rawE_back hc hg, words_of hc, hc, decide_eq_true rfl, decide_eq_true (by simp)]
    rfl
theorem both12 {l : List UInt8} (hl : l.length ≤ 900) : (∃ y, checkE y = 0 ∧ goodL y.2.2 ∧ entry_Parse.f (bs l) = some (y, 0) ∧ bursarref12_Parse.f (bs l) = some (y, true)) ∨ (entry_Parse.f (bs l) = some (zE, 4) ∧ bursarref12_Parse.f (bs l) = some (zE, false)) := by
  by_cases hx : ∃ y, checkE y = 0 ∧ goodL y.2.2 ∧ textE y = l
  · obtain ⟨y, hc, hg, rfl⟩ := hx
    exact .inl ⟨y, hc, hg, (back12 hc hg).2, (back12 hc hg).1⟩
  · have no : ∀ y : Ent, goodL y.2.2 → (checkE y == 0 && decide (textE y = l)) = false := fun y hg => by
      cases hc : (checkE y == 0)
      · rfl
      · rw [Bool.true_and]
        exact decide_eq_false fun e => hx ⟨y, by simpa using hc, hg, e⟩
    refine .inr ⟨?_, ?_⟩
    · rw [entParse_is hl, no _ (rawE_good hl), Bool.and_false]; rfl
    · rw [refParse12_eq hl]
      cases decide ((splitL 32 l).length < 2) || (decide (((splitL 32 l).getD 0 []).length > 10) || !((splitL 32 l).getD 0 []).all isD)
      · simp only [cond_false]
        cases hM : refLines ((splitL 32 l).drop 2) with
        | none => rfl
        | some M =>
          have hg := (refLines_good (fun w hw => by have := parts_len 32 l w (List.mem_of_mem_drop hw); omega) hM).1
          simp only [no (((((splitL 32 l).getD 0 []).foldl valS 0 : Nat) : Int), bs ((splitL 32 l).getD 1 []), M) hg, cond_false]
      · rfl
theorem EntryChecks_is (a : Ent × ByteArray) (hw : ∀ y ∈ a.1.2.2, (Lit.int .i64 y.1.1).wf = true ∧ Am y.2) : bursarlaw12_EntryChecks.f a = some true := by
  obtain ⟨x0, s⟩ := a
  obtain ⟨x, hf, hg, hl10, _⟩ := few12_is x0 hw
  have hck := check_is hg
  have hrc := refCheck_is hg
  have htx := entText_is hg
  have core : ∀ u : ByteArray, u.size ≤ 300 → ∃ p q, entry_Parse.f u = some p ∧ bursarref12_Parse.f u = some q ∧ bursarref12_Same.f (p.1, q.1) = some true ∧ ((p.2 == 0) == q.2) = true ∧ (q.2 = false → p.2 = 4) := fun u hu => by
    obtain ⟨l, rfl⟩ : ∃ l, u = bs l := ⟨_, eq_bs u⟩
    rw [bs_size] at hu
    rcases both12 (l := l) (by omega) with ⟨y, hc, hgy, h1, h2⟩ | ⟨h1, h2⟩
    · have hs := same12_is y y (by have := (checkE_ok hc).2.2.2.2.1; omega)
      rw [decide_eq_true rfl] at hs
      exact ⟨_, _, h1, h2, hs, rfl, fun h => by cases h⟩
    · have hs := same12_is zE zE (by show (0 : Nat) ≤ 1000; omega)
      rw [decide_eq_true rfl] at hs
      exact ⟨_, _, h1, h2, hs, rfl, fun _ => rfl⟩
  have tail : ∀ (p : Ent × Int) (q : Ent × Bool), bursarref12_Same.f (p.1, q.1) = some true → ((p.2 == 0) == q.2) = true → (q.2 = false → p.2 = 4) → True := fun _ _ _ _ _ => trivial
  unfold bursarlaw12_EntryChecks.f
  simp only [hf, Option.bind_some, hck, hrc, htx]
  obtain ⟨e, he⟩ : ∃ e, checkE x = e := ⟨_, rfl⟩
  rw [he]
  by_cases h0 : e = 0
  · subst h0
    have hb := (back12 he hg).2
    have hrt := refText12_is he hg
    have hs := same12_is x x (by omega)
    rw [decide_eq_true rfl] at hs
    by_cases h300 : (s.size : Int) > 300
    · obtain ⟨p, q, h1, h2, h3, h4, h5⟩ := core (s.extract 0 300) (by rw [ByteArray.size_extract]; omega)
      simp only [decide_eq_true h300, decide_eq_true (show (300 : Int) ≤ (s.size : Int) by omega), Bool.and_self, cond_true, cond_false, BEq.rfl, bne_self_eq_false, h1, h2, Option.bind_some, h3, h4, Bool.not_true, hb, hrt, hs]
      cases hq : q.2
      · rw [h5 hq]; rfl
      · rfl
    · obtain ⟨p, q, h1, h2, h3, h4, h5⟩ := core s (by omega)
      simp only [decide_eq_false h300, Bool.and_self, cond_true, cond_false, BEq.rfl, bne_self_eq_false, h1, h2, Option.bind_some, h3, h4, Bool.not_true, hb, hrt, hs]
      cases hq : q.2
      · rw [h5 hq]; rfl
      · rfl
  · have e1 : (e == 0) = false := by simpa using h0
    have e2 : (e != 0) = true := by simpa using h0
    by_cases h300 : (s.size : Int) > 300
    · obtain ⟨p, q, h1, h2, h3, h4, h5⟩ := core (s.extract 0 300) (by rw [ByteArray.size_extract]; omega)
      simp only [decide_eq_true h300, decide_eq_true (show (300 : Int) ≤ (s.size : Int) by omega), Bool.and_self, cond_true, cond_false, e1, e2, bne_self_eq_false, h1, h2, Option.bind_some, h3, h4, Bool.not_true, texts_nil, decide_true]
      cases hq : q.2
      · rw [h5 hq]; rfl
      · rfl
    · obtain ⟨p, q, h1, h2, h3, h4, h5⟩ := core s (by omega)
      simp only [decide_eq_false h300, Bool.and_self, cond_true, cond_false, e1, e2, bne_self_eq_false, h1, h2, Option.bind_some, h3, h4, Bool.not_true, texts_nil, decide_true]
      cases hq : q.2
      · rw [h5 hq]; rfl
      · rfl
end Go.Proofs.YtcadnpdhiolmfaaDoor
end
section
set_option linter.unusedVariables false
set_option linter.unusedSimpArgs false
namespace Go.Proofs.YtcadnpdhiolmfaaDoor.entryChecks
open Go Go.Fw Go.ChangeShapes Go.WideShapes Go.ChangeAt Go.RowKit
theorem own : ownKnob Tryd.prog.godebug = none := by kernel_rfl
theorem laidOut : laidOutB Tryd.prog = true := by kernel_rfl
set_option maxRecDepth 100000 in
theorem told {W : World} (h : laidMetH Tryd.prog Rows.entryChecksRow.laid W) : Glob ⟨W, fun b => b < W.heap.size, fun _ => False, fun _ => 0, fun _ => 0, G1⟩ := by
  rw [MakeChecks.laidMetH_plain _ _ _ (by kernel_rfl)] at h
  have f3 := globAt_tab (P := Tryd.prog) (g := 3) (k := .u64) (zs := [1, 10, 100, 1000, 10000, 100000, 1000000, 10000000, 100000000, 1000000000, 10000000000, 100000000000, 1000000000000, 10000000000000, 100000000000000, 1000000000000000, 10000000000000000, 100000000000000000, 1000000000000000000, 10000000000000000000]) (by kernel_rfl) (Lib.tabIs_of_head (g := 3) (by kernel_rfl) (by kernel_rfl) Tryd.underlying126 Tryd.underlying79 (by kernel_rfl) (by kernel_rfl) (laidMet.tail (laidMet.tail h)))
  have f1 := globAt_err (P := Tryd.prog) (g := 1) (by kernel_rfl) (laid_err (g := 1) (laidMet.tail (laidMet.tail (laidMet.tail (laidMet.tail h)))) (by kernel_rfl) (by kernel_rfl) Tryd.underlying64)
  have f0 := globAt_err (P := Tryd.prog) (g := 0) (by kernel_rfl) (laid_err (g := 0) (laidMet.tail (laidMet.tail (laidMet.tail (laidMet.tail (laidMet.tail h))))) (by kernel_rfl) (by kernel_rfl) Tryd.underlying64)
  exact (glob_cons f3 (glob_cons f0 (glob_cons f1 glob_none')))
set_option maxRecDepth 100000 in
theorem lifted (os : Os) (started : os.Started) (H : Type) (enc : TypeId × Value → H) :
    ReturnsInHanded {} Tryd.checked os 3 .any (fun w args => (Rows.entryChecksSpec.pre enc Tryd.prog Tryd.f3 [] false w args ∧ laidMetH Tryd.prog Rows.entryChecksRow.laid w) ∧ sizedMet enc Tryd.prog Tryd.f3 (OpenSpec.ofChange Rows.entryChecksSpec) false w args)
      (Rows.entryChecksSpec.post enc Tryd.prog Tryd.f3 false true false false) := by
  refine returnsInHanded_of_change_and (C := Tryd.checked) (X := fun w _ => laidMetH Tryd.prog Rows.entryChecksRow.laid w) (fun _ _ _ hh h => h.of_heap hh) own started (by kernel_rfl) Tryd.func3
    (ChangeSpec.witness_shaped (enc := enc) (C := Tryd.checked) (os := os) (X := fun w _ => laidMetH Tryd.prog Rows.entryChecksRow.laid w) false (World.laidAll Tryd.prog os Rows.entryChecksRow.laid) #[.agg #[.int .i64 0, .string ByteArray.empty, .slice none 0 0], .string ByteArray.empty] 8 (World.laidAll_os _ _ _) (World.shaped_of_ZipB (by kernel_rfl) (by kernel_rfl)) (by kernel_rfl) (by kernel_rfl) (by kernel_rfl) (by rw [MakeChecks.laidMetH_plain _ _ _ (by kernel_rfl)]; exact laidMet_laidAll _ (by kernel_rfl) (by kernel_rfl))) ?_
  intro W base args ds gs before hval hW _ _ hL _
  exact law_call (P := Tryd.prog) (g := 3) (tb := Tryd.f3.resultTypes.getD 0 0) laidOut bursarlaw12_EntryChecks.row_ok (told hL) (by kernel_rfl) (fun a => by kernel_rfl) (by kernel_rfl) (by kernel_rfl) rfl
    (fun ds h => match ds, h with | [_, _], _ => ⟨rfl, rfl, rfl⟩) (fun a ha => EntryChecks_is a (fun y hy => ⟨(ha.1.2.2.2 y hy).1.1, bounds_i64 (ha.1.2.2.2 y hy).2⟩)) hval hW
set_option maxRecDepth 100000 in
theorem over : Rows.entryChecksRow.holds Tryd.pinned (OpenSpec.ofChange Rows.entryChecksSpec) :=
  OpenClaim.holds_of_wide 3 Tryd.f3 rfl rfl rfl rfl rfl rfl rfl ⟨rfl, rfl, rfl, rfl, rfl⟩ rfl rfl rfl rfl rfl (by kernel_rfl) Tryd.func3 (by kernel_rfl)
    (of_decide_eq_true (by kernel_rfl)) (by unfold Func.isWrapper; first | (rw [if_pos (by decide +kernel)]; kernel_rfl) | (rw [if_neg (by decide +kernel)]; exact ⟨rfl, rfl⟩))
    (fun os started H enc _ => lifted os started H enc)
theorem plainParams : (Tryd.f3.params.toList.all fun t => !(Tryd.prog.wantsStandIn t)) = true := by kernel_rfl
theorem card : Rows.EntryChecksCardSaid :=
  Claim7.holds_tied_plain_at .later [] [.data, .data, .data, .data, .sentinel, .sentinel, .pinned] true (true, "18d62f2849c6e67e3296a9cf7065ec13307a38655b1387bee3272c4457be0b7f") true
    over (fun _ h => by cases h) (by kernel_rfl) (fun _ h => by cases h) entryChecks_row_tie rfl ⟨rfl, rfl⟩ (by kernel_rfl) rfl
    (fun f fn hf hfn => by
      obtain rfl : f = 3 := Option.some.inj ((show Tryd.prog.funcNamed "bursar/bursarlaw12.EntryChecks" = some 3 by kernel_rfl).symm.trans hf) |>.symm
      obtain rfl : fn = Tryd.f3 := (Option.some.inj (Tryd.func3.symm.trans hfn)).symm
      exact ⟨by kernel_rfl, fun j t ht => by
        have h := List.all_eq_true.1 plainParams t (by rw [← Array.getElem?_toList] at ht; exact List.mem_of_getElem? ht)
        exact (show Tryd.prog.wantsStandIn t = false by simpa using h)⟩)
    (by kernel_rfl)
end Go.Proofs.YtcadnpdhiolmfaaDoor.entryChecks
namespace Go.Proofs.YtcadnpdhiolmfaaDoor
theorem entryChecks_holds : Rows.EntryChecksCardSaid := entryChecks.card
#print axioms entryChecks_holds
end Go.Proofs.YtcadnpdhiolmfaaDoor
end
