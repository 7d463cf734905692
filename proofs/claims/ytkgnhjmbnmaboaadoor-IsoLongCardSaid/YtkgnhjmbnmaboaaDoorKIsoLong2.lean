/- A message's octets are its digits, its map's and its fields', and no others. -/
import Derived.Test.YtkgnhjmbnmaboaaDoorRows
import Derived.Test.YtkgnhjmbnmaboaaDoorCards
import Derived.Test.YtkgnhjmbnmaboaaDoorTie
import Derived.SevenTiedAt
import Derived.ProofKit
import Derived.LaidMore
import Derived.Lay
import Derived.MakeChecks
import Derived.Test.YtkgnhjmbnmaboaaDoorKIsoLong1
section
/- The Go function bursarlaw19.Few, as a Lean function, and that it is this one. Written by a program of this session. -/
set_option linter.unusedVariables false
set_option maxRecDepth 100000
namespace Go.Proofs.YtkgnhjmbnmaboaaDoor
open Go Go.Fw
abbrev bursarlaw19_Few.As : Shs := (.cons (.x T_api_Message) .nil)
abbrev bursarlaw19_Few.m : Back := [(false, T_api_Message)]
noncomputable abbrev bursarlaw19_Few.H : HK := hk P G0 E0 J0 [] noLoops 4
theorem bursarlaw19_Few.rows : TabOK P G0 (tabF []) := rows_ok (ws := []) trivial
theorem bursarlaw19_Few.hok : HKOK P bursarlaw19_Few.H := hk_ok e0_ok j0_ok bursarlaw19_Few.rows (fun g n => noLoops_ok g n) 4
noncomputable abbrev bursarlaw19_Few.sh10 : SSh := ⟨[(1, (.pt 0 0)), (2, (.pt 1 0)), (3, (.own 2 2)), (4, (.x (.i .i64)))], [.box (.cons (.x .s) (.cons (.x (.l (.g (.p (.i .i64) .s)))) .nil)), .box (.cons (.x .s) (.cons (.own 3 2) .nil)), .arrN T_api_Account, .arrN T_api_Account]⟩
noncomputable abbrev bursarlaw19_Few.os10 : PEnds := [((.exit 0), ⟨[(1, (.pt 0 0)), (2, (.pt 1 0)), (3, (.x (.l (.g (.p (.i .i64) .s)))))], [.box (.cons (.x .s) (.cons (.x (.l (.g (.p (.i .i64) .s)))) .nil)), .box (.cons (.x .s) (.cons (.own 2 2) .nil)), .arrN T_api_Account]⟩)]
noncomputable def bursarlaw19_Few.t10 (s : (Int × (ByteArray × ((List (Int × ByteArray)) × (ByteArray × ((List (Int × ByteArray)) × (List (Int × ByteArray)))))))) : Option ((Int × (ByteArray × ((List (Int × ByteArray)) × (ByteArray × ((List (Int × ByteArray)) × (List (Int × ByteArray))))))) ⊕ (((List (Int × ByteArray)) × (ByteArray × ((List (Int × ByteArray)) × (ByteArray × (List (Int × ByteArray)))))))) := (bif (decide ((s.1 < ((List.length s.2.2.1) : Int)))) then (bif ((decide (((0 : Int) ≤ s.1))) && (decide ((s.1 < ((List.length s.2.2.1) : Int))))) then (bif (decide ((((List.getD s.2.2.1 (Int.toNat s.1) (Ty.dflt T_api_Account)).2.size : Int) > (1001 : Int)))) then (bif (true && (decide (((1001 : Int) ≤ ((List.getD s.2.2.1 (Int.toNat s.1) (Ty.dflt T_api_Account)).2.size : Int))))) then (bif ((true && (Nat.ble (((List.length s.2.2.2.2.1) + (List.length (((List.getD s.2.2.1 (Int.toNat s.1) (Ty.dflt T_api_Account)).1, (ByteArray.extract (List.getD s.2.2.1 (Int.toNat s.1) (Ty.dflt T_api_Account)).2 0 1001)) :: []))) * 24) 140737488355328)) && (Nat.ble ((List.length s.2.2.2.2.1) + (List.length (((List.getD s.2.2.1 (Int.toNat s.1) (Ty.dflt T_api_Account)).1, (ByteArray.extract (List.getD s.2.2.1 (Int.toNat s.1) (Ty.dflt T_api_Account)).2 0 1001)) :: []))) 140737488355328)) then (some (.inl ((IntKind.wrap .i64 (s.1 + (1 : Int))), (s.2.1, (s.2.2.1, (s.2.2.2.1, ((s.2.2.2.2.1 ++ (((List.getD s.2.2.1 (Int.toNat s.1) (Ty.dflt T_api_Account)).1, (ByteArray.extract (List.getD s.2.2.1 (Int.toNat s.1) (Ty.dflt T_api_Account)).2 0 1001)) :: [])), s.2.2.2.2.2))))))) else none) else none) else (bif ((true && (Nat.ble (((List.length s.2.2.2.2.1) + (List.length ((List.getD s.2.2.1 (Int.toNat s.1) (Ty.dflt T_api_Account)) :: []))) * 24) 140737488355328)) && (Nat.ble ((List.length s.2.2.2.2.1) + (List.length ((List.getD s.2.2.1 (Int.toNat s.1) (Ty.dflt T_api_Account)) :: []))) 140737488355328)) then (some (.inl ((IntKind.wrap .i64 (s.1 + (1 : Int))), (s.2.1, (s.2.2.1, (s.2.2.2.1, ((s.2.2.2.2.1 ++ ((List.getD s.2.2.1 (Int.toNat s.1) (Ty.dflt T_api_Account)) :: [])), s.2.2.2.2.2))))))) else none)) else none) else (some (.inr (s.2.2.2.2.1, (s.2.1, (s.2.2.1, (s.2.2.2.1, s.2.2.2.2.2)))))))
theorem bursarlaw19_Few.t10_ok : ∀ s : Vals bursarlaw19_Few.sh10.tys, turnK P bursarlaw19_Few.H (lp []) (bodyAt (codeOf P 38) 10) 0 bursarlaw19_Few.sh10 bursarlaw19_Few.os10 s some = bursarlaw19_Few.t10 s := by rintro ⟨s0, s1, s2, s3, s4, s5⟩; cases s4 <;> cases s5 <;> kernel_rfl
noncomputable def bursarlaw19_Few.l10 : (Int × (ByteArray × ((List (Int × ByteArray)) × (ByteArray × ((List (Int × ByteArray)) × (List (Int × ByteArray))))))) → Option (((List (Int × ByteArray)) × (ByteArray × ((List (Int × ByteArray)) × (ByteArray × (List (Int × ByteArray))))))) := rounds bursarlaw19_Few.t10
noncomputable def bursarlaw19_Few.f (a : (ByteArray × (List (Int × ByteArray)))) : Option (ByteArray × (List (Int × ByteArray))) := (bif (decide ((((List.length a.2) : Int) > (130 : Int)))) then (bif (true && (decide (((130 : Int) ≤ ((List.length a.2) : Int))))) then (bif (decide (((a.1.size : Int) > (8 : Int)))) then (bif (true && (decide (((8 : Int) ≤ (a.1.size : Int))))) then (((bursarlaw19_Few.l10 ((0 : Int), ((ByteArray.extract a.1 0 8), ((List.take 130 (List.drop 0 a.2)), ((bs []), ([], []))))))).bind fun (x1 : ((List (Int × ByteArray)) × (ByteArray × ((List (Int × ByteArray)) × (ByteArray × (List (Int × ByteArray))))))) => (match x1.2.2.2.2 with | [] => (some (x1.2.1, x1.1)) | x2 :: x3 => (some (x1.2.1, x1.1)))) else none) else (((bursarlaw19_Few.l10 ((0 : Int), (a.1, ((List.take 130 (List.drop 0 a.2)), ((bs []), ([], []))))))).bind fun (x1 : ((List (Int × ByteArray)) × (ByteArray × ((List (Int × ByteArray)) × (ByteArray × (List (Int × ByteArray))))))) => (match x1.2.2.2.2 with | [] => (some (x1.2.1, x1.1)) | x2 :: x3 => (some (x1.2.1, x1.1))))) else none) else (bif (decide (((a.1.size : Int) > (8 : Int)))) then (bif (true && (decide (((8 : Int) ≤ (a.1.size : Int))))) then (((bursarlaw19_Few.l10 ((0 : Int), ((ByteArray.extract a.1 0 8), (a.2, ((bs []), ([], []))))))).bind fun (x1 : ((List (Int × ByteArray)) × (ByteArray × ((List (Int × ByteArray)) × (ByteArray × (List (Int × ByteArray))))))) => (match x1.2.2.2.2 with | [] => (some (x1.2.1, x1.1)) | x2 :: x3 => (some (x1.2.1, x1.1)))) else none) else (((bursarlaw19_Few.l10 ((0 : Int), (a.1, (a.2, ((bs []), ([], []))))))).bind fun (x1 : ((List (Int × ByteArray)) × (ByteArray × ((List (Int × ByteArray)) × (ByteArray × (List (Int × ByteArray))))))) => (match x1.2.2.2.2 with | [] => (some (x1.2.1, x1.1)) | x2 :: x3 => (some (x1.2.1, x1.1))))))
theorem bursarlaw19_Few.ok : ∀ a : Vals bursarlaw19_Few.As.tys, fnK P bursarlaw19_Few.H (lp [(10, (NodeT.summ ⟨bursarlaw19_Few.sh10, bursarlaw19_Few.os10, bursarlaw19_Few.l10⟩ 0))]) 38 bursarlaw19_Few.As bursarlaw19_Few.m a some = bursarlaw19_Few.f a := fun a => by kernel_rfl
noncomputable abbrev bursarlaw19_Few.row : Row := fnRow 38 bursarlaw19_Few.As bursarlaw19_Few.m bursarlaw19_Few.f
theorem bursarlaw19_Few.row_ok : RowOK P G0 bursarlaw19_Few.row := row_told bursarlaw19_Few.hok (lp_of (l := [(10, (NodeT.summ ⟨bursarlaw19_Few.sh10, bursarlaw19_Few.os10, bursarlaw19_Few.l10⟩ 0))]) ⟨(loop_sum bursarlaw19_Few.hok (by kernel_rfl) (by kernel_rfl) (l := []) trivial bursarlaw19_Few.sh10 bursarlaw19_Few.os10 (by kernel_rfl) bursarlaw19_Few.t10 bursarlaw19_Few.t10_ok), trivial⟩) (fun _ => rfl) bursarlaw19_Few.ok
end Go.Proofs.YtkgnhjmbnmaboaaDoor
end
section
/- Messages are packed as the document says, and parsed as they were. By this session. -/
set_option linter.unusedVariables false
set_option linter.unusedSimpArgs false
namespace Go.Proofs.YtkgnhjmbnmaboaaDoor
open Go Go.Fw
abbrev Fld := Int × ByteArray
abbrev Msg := ByteArray × List Fld
theorem dflt_fld : (Ty.dflt (.g (.p (.i .i64) .s)) : Int × ByteArray) = (0, bs []) := rfl
noncomputable def pkE (f : Fld) : ByteArray × Int := (spec_Pack.f f).getD (bs [], 1)
noncomputable def pkL (f : Fld) : List UInt8 := (pkE f).1.data.toList
theorem pkE_is {f : Fld} (hs : f.2.size ≤ 5000) : spec_Pack.f f = some (pkE f) ∧ (pkL f).length ≤ 1002 ∧
    ((pkE f).2 = 0 → ∀ b : List UInt8, (pkL f ++ b).length ≤ 5000 → spec_Take.f (f.1, bs (pkL f ++ b)) = some (f.2, ((pkL f).length : Int), 0)) ∧ pkE f = (bs (pkL f), (pkE f).2) := by
  obtain ⟨n, s0⟩ := f
  obtain ⟨s, rfl⟩ : ∃ s : List UInt8, s0 = bs s := ⟨_, eq_bs s0⟩
  have hs : s.length ≤ 5000 := by simpa [bs_size] using hs
  obtain ⟨k, v, l, hR, hO, hk⟩ := of_is n
  have hp := pack_is hO hk hs
  have he : pkE (n, bs s) = (bif decide (k = 0) then (bs [], 7) else bif mayF k v l s then (bs (digs v s.length ++ s), 0) else (bs [], 16)) := by unfold pkE; rw [hp]; rfl
  refine ⟨by rw [he, hp], ?_⟩
  unfold pkL
  rw [he]
  by_cases h0 : k = 0
  · rw [decide_eq_true h0]
    exact ⟨by simp [bs_size], fun h => by simp at h, rfl⟩
  · rw [decide_eq_false h0]
    simp only [cond_false]
    cases hm : mayF k v l s
    · exact ⟨by simp [bs_size], fun h => by simp at h, rfl⟩
    · obtain ⟨h1, h2, h3, h4, h5, h6, h7, h8⟩ := mayF_len hk hm
      have hl := digs_len h3 s.length
      have e : (bs (digs v s.length ++ s)).data.toList = digs v s.length ++ s := bs_list _
      refine ⟨by simp only [cond_true, e, List.length_append]; omega, fun _ b hb => ?_, by simp only [cond_true, e]⟩
      simp only [cond_true, e] at hb ⊢
      rw [take16_is hO hk hb, decide_eq_false h0, cond_false, takeF_digs hk hm]
noncomputable def okP (l : List Fld) : Bool := (List.range l.length).all fun i => (pkE (l.getD i (0, bs []))).2 == 0
noncomputable def bodyM (l : List Fld) : List UInt8 := (l.map pkL).flatten
theorem bodyM_up (l : List Fld) {i : Nat} (h : i < l.length) : bodyM (l.take (i + 1)) = bodyM (l.take i) ++ pkL (l.getD i (0, bs [])) := by
  unfold bodyM
  rw [take_up (0, bs []) h, List.map_append, List.flatten_append]
  simp
def goodM (m : Msg) : Prop := m.2.length ≤ 130 ∧ ∀ f ∈ m.2, f.2.size ≤ 1001
theorem goodM.at {m : Msg} (h : goodM m) {i : Nat} (hi : i < m.2.length) : (m.2.getD i (0, bs [])).2.size ≤ 5000 := by
  have := h.2 (m.2.getD i (0, bs [])) (by rw [getD_at hi]; exact List.getElem_mem hi)
  omega
theorem bodyM_len {l : List Fld} (h : ∀ f ∈ l, f.2.size ≤ 1001) : (bodyM l).length ≤ 1002 * l.length := by
  unfold bodyM
  induction l with
  | nil => simp
  | cons f l ih =>
    have := (pkE_is (f := f) (by have := h f List.mem_cons_self; omega)).2.1
    have := ih fun x hx => h x (List.mem_cons_of_mem _ hx)
    simp only [List.map_cons, List.flatten_cons, List.length_append, List.length_cons]
    omega
theorem numbers_is {l : List Fld} (hl : l.length ≤ 1000) : iso_numbers.f l = some (l.map (·.1)) := by
  have h := rounds_map (t := iso_numbers.t4) l (0, bs []) (fun f : Fld => f.1) (fun acc i => (l, (l.length : Int), ((i : Nat) : Int), acc)) (fun acc => acc) (fun i hi => by
    have hm : ((l.take i).map (fun f : Fld => f.1)).length ≤ 1000 := by simp; omega
    simp only [iso_numbers.t4, inb hi, cond_true, ge0' i, Bool.and_self, Int.toNat_natCast, wrap_up (show i < 9223372036854775807 by omega), List.length_cons, List.length_nil]
    rw [Nat.ble_eq_true_of_le (by omega), Nat.ble_eq_true_of_le (by omega)]
    rfl) (fun _ _ => by simp only [iso_numbers.t4, outb, cond_false])
  have h0 : iso_numbers.l4 (l, (l.length : Int), 0, []) = some (l.map (·.1)) := h
  unfold iso_numbers.f
  rw [h0]
  rfl
theorem whose_len {s : ByteArray} {i : Nat} (h : whose s = some i) : s.size = 4 := by
  obtain ⟨h1, h2⟩ := firstI_some h
  rw [← of_decide_eq_true h2]
  exact (dec_at i h1).1
def headM (l : List Fld) : List UInt8 := octs8 (mapL (l.map (·.1)))
theorem headM_len (l : List Fld) : (headM l).length = bif wide (l.map (·.1)) then 16 else 8 := octs_size
/-- a message's octets, and the error -/
noncomputable def packF (m : Msg) : ByteArray × Int := match whose m.1 with
  | none => (bs [], 17)
  | some _ => bif mayL (m.2.map (·.1)) && okP m.2 then (bif decide (4000 < 4 + (headM m.2).length + (bodyM m.2).length) then (bs [], 9) else (bs (m.1.data.toList ++ headM m.2 ++ bodyM m.2), 0)) else (bs [], 16)
theorem pack_rounds {m : Msg} (hg : goodM m) {h : List UInt8} (hh : h.length ≤ 100) : iso_pack.l12 (bs h, m.2, (m.2.length : Int), 0) = some (bif okP m.2 then .inr (bs (h ++ bodyM m.2)) else .inl (bs [], 16)) := by
  obtain ⟨mt, l⟩ := m
  have hl : l.length ≤ 130 := hg.1
  have hf := rounds_first (t := iso_pack.t12) (fun i => (bs (h ++ bodyM (l.take i)), l, (l.length : Int), ((i : Nat) : Int))) (fun i => bif (pkE (l.getD i (0, bs []))).2 == 0 then none else some (.inl (bs [], (16 : Int)))) (.inr (bs (h ++ bodyM l))) l.length (fun i hi _ => by
    obtain ⟨p1, p2, _, p4⟩ := pkE_is (f := l.getD i (0, bs [])) (hg.at hi)
    have hb : (bodyM (l.take i)).length ≤ 1002 * (l.take i).length := bodyM_len fun f hf => hg.2 f (List.mem_of_mem_take hf)
    have hb' : (l.take i).length ≤ 130 := by simp; omega
    have hbt : (h ++ bodyM (l.take i)).length ≤ 131000 := by simp only [List.length_append]; omega
    simp only [iso_pack.t12, inb hi, cond_true, ge0' i, Bool.and_self, Int.toNat_natCast, dflt_fld, p1, Option.bind_some, bne]
    rw [bodyM_up l hi, p4]
    cases (pkE (l.getD i (0, bs []))).2 == 0
    · rfl
    · simp only [Bool.not_true, cond_false, cond_true, bs_append, bs_size, wrap_up (show i < 9223372036854775807 by omega)]
      rw [Nat.ble_eq_true_of_le (by omega), List.append_assoc]
      rfl) (fun _ => by simp only [iso_pack.t12, outb, cond_false, List.take_length])
  have hf' : iso_pack.l12 (bs (h ++ bodyM (l.take 0)), l, (l.length : Int), 0) = _ := hf
  have e0 : h ++ bodyM (l.take 0) = h := by unfold bodyM; simp
  rw [e0] at hf'
  show iso_pack.l12 (bs h, l, (l.length : Int), 0) = _
  rw [hf']
  unfold okP
  rcases find_not (n := l.length) (p := fun i => (pkE (l.getD i (0, bs []))).2 == 0) (g := fun i => Sum.inl (β := ByteArray) (bs [], (16 : Int))) with ⟨i, _, h1, h2⟩ | ⟨h1, h2⟩ <;> rw [h1, h2] <;> rfl
theorem isoPack_is {m : Msg} (hg : goodM m) : iso_Pack.f m = some (packF m) := by
  have hl := hg.1
  unfold iso_Pack.f iso_pack.f packF
  rw [mtiParse_is]
  cases hw : whose m.1 with
  | none => rfl
  | some i =>
    have h4 : m.1.data.toList.length = 4 := by have := whose_len hw; simpa using this
    have hn : (m.2.map (fun f : Fld => f.1)).length ≤ 1000 := by simp; omega
    have hh := headM_len m.2
    have hh' : (headM m.2).length ≤ 16 := by rw [hh]; cases wide (m.2.map (·.1)) <;> simp
    simp only [Option.bind_some, bne_self_eq_false, cond_false, numbers_is (show m.2.length ≤ 1000 by omega), map_is hn]
    cases mayL (m.2.map (·.1))
    · rfl
    · have ha : m.1 ++ bs (octs8 (mapL (m.2.map (·.1)))) = bs (m.1.data.toList ++ headM m.2) := by
        conv => lhs; lhs; rw [eq_bs m.1]
        rw [bs_append]; rfl
      simp only [cond_true, bne_self_eq_false, cond_false, ha]
      rw [Nat.ble_eq_true_of_le (by rw [bs_size]; have := whose_len hw; unfold headM at hh'; omega), cond_true, pack_rounds hg (by simp only [List.length_append]; omega)]
      cases okP m.2
      · rfl
      · simp only [cond_true, Option.bind_some, bs_size, Bool.and_self, BEq.rfl]
        by_cases c : 4000 < 4 + (headM m.2).length + (bodyM m.2).length
        · rw [decide_eq_true c, decide_eq_true (by simp only [List.length_append]; omega)]; rfl
        · rw [decide_eq_false c, decide_eq_false (by simp only [List.length_append]; omega)]; rfl
/-! ### parsed as it was -/
theorem parse_rounds {m : Msg} (hg : goodM m) (hok : okP m.2 = true) (hb : (bodyM m.2).length ≤ 4000) :
    iso_Parse.l20 (bs (bodyM m.2), m.2.map (·.1), ((m.2.map (·.1)).length : Int), 0, bs [], m.1, [], []) = some (.inr (bs [], bs [], m.1, [], m.2)) := by
  obtain ⟨mt, l⟩ := m
  have hl : l.length ≤ 130 := hg.1
  have drop_up : ∀ i, i < l.length → bodyM (l.drop i) = pkL (l.getD i (0, bs [])) ++ bodyM (l.drop (i + 1)) := fun i hi => by
    have hd : l.drop i = l.getD i (0, bs []) :: l.drop (i + 1) := by rw [getD_at hi, List.drop_eq_getElem_cons hi]
    rw [hd]; rfl
  have hle : ∀ i, i ≤ l.length → (bodyM (l.drop i)).length ≤ 4000 := fun i => by
    induction i with
    | zero => intro _; exact hb
    | succ i ih =>
      intro hi
      have h1 := ih (by omega)
      rw [drop_up i (by omega), List.length_append] at h1
      omega
  have hf := rounds_to (t := iso_Parse.t20) (fun i => (bs (bodyM (l.drop i)), l.map (·.1), ((l.map (·.1)).length : Int), ((i : Nat) : Int), bs [], mt, ([] : List Fld), l.take i)) l.length (fun i hi => by
    have hn : ((l.map (fun f : Fld => f.1)).length) = l.length := by simp
    have hok1 : (pkE (l.getD i (0, bs []))).2 = 0 := eq_of_beq (List.all_eq_true.1 hok i (List.mem_range.2 hi))
    obtain ⟨_, p2, p3, _⟩ := pkE_is (f := l.getD i (0, bs [])) (hg.at hi)
    have hb1 := hle i (by omega)
    rw [drop_up i hi] at hb1
    have htake := p3 hok1 (bodyM (l.drop (i + 1))) (by omega)
    have hget : (l.map (fun f : Fld => f.1)).getD i 0 = (l.getD i (0, bs [])).1 := by
      rw [getD_at hi, getD_at (by rw [hn]; exact hi), List.getElem_map]
    have hlt : (l.take i).length ≤ 130 := by simp; omega
    have hlen : (pkL (l.getD i (0, bs []))).length ≤ (pkL (l.getD i (0, bs [])) ++ bodyM (l.drop (i + 1))).length := by simp
    have hcut : ((pkL (l.getD i (0, bs [])) ++ bodyM (l.drop (i + 1))).take (pkL (l.getD i (0, bs [])) ++ bodyM (l.drop (i + 1))).length).drop (pkL (l.getD i (0, bs []))).length = bodyM (l.drop (i + 1)) := by
      rw [List.take_length, List.drop_left]
    rw [drop_up i hi]
    simp only [iso_Parse.t20, hn, inb hi, cond_true, ge0' i, Bool.and_self, Int.toNat_natCast, hget, htake, Option.bind_some, bne_self_eq_false, cond_false, bs_size, List.length_cons, List.length_nil, ge0', decide_eq_true (show (((pkL (l.getD i (0, bs []))).length : Nat) : Int) ≤ (((pkL (l.getD i (0, bs [])) ++ bodyM (l.drop (i + 1))).length : Nat) : Int) by omega), bs_extract, hcut, wrap_up (show i < 9223372036854775807 by omega)]
    rw [Nat.ble_eq_true_of_le (by omega), Nat.ble_eq_true_of_le (by omega), take_up (0, bs []) hi]
    rfl)
  have hf' : iso_Parse.l20 (bs (bodyM l), l.map (·.1), ((l.map (·.1)).length : Int), 0, bs [], mt, [], []) = rounds iso_Parse.t20 (bs (bodyM (l.drop l.length)), l.map (·.1), ((l.map (·.1)).length : Int), ((l.length : Nat) : Int), bs [], mt, ([] : List Fld), l.take l.length) := hf
  show iso_Parse.l20 (bs (bodyM l), l.map (·.1), ((l.map (·.1)).length : Int), 0, bs [], mt, [], []) = _
  rw [hf', List.take_length, List.drop_length, rounds_end (r := .inr (bs [], bs [], mt, [], l)) (by
    have hn : ((l.map (fun f : Fld => f.1)).length) = l.length := by simp
    simp only [iso_Parse.t20, hn, outb, cond_false]
    rfl)]
theorem packF_zero {m : Msg} (h : (packF m).2 = 0) : ∃ i, whose m.1 = some i ∧ mayL (m.2.map (·.1)) = true ∧ okP m.2 = true ∧ 4 + (headM m.2).length + (bodyM m.2).length ≤ 4000 ∧ (packF m).1 = bs (m.1.data.toList ++ headM m.2 ++ bodyM m.2) := by
  unfold packF at h ⊢
  cases hw : whose m.1 with
  | none => rw [hw] at h; cases h
  | some i =>
    rw [hw] at h
    simp only at h ⊢
    cases h1 : mayL (m.2.map (·.1))
    · rw [h1] at h; cases h
    · cases h2 : okP m.2
      · rw [h1, h2] at h; cases h
      · rw [h1, h2] at h
        simp only [Bool.and_self, cond_true] at h ⊢
        by_cases c : 4000 < 4 + (headM m.2).length + (bodyM m.2).length
        · rw [decide_eq_true c] at h; cases h
        · rw [decide_eq_false c]
          simp only [cond_false, and_true, true_and]
          exact ⟨i, rfl, by omega⟩
theorem isoParse_is {m : Msg} (hg : goodM m) (h : (packF m).2 = 0) : iso_Parse.f (packF m).1 = some (m, 0) := by
  obtain ⟨i, hw, hmay, hok, hle, hp⟩ := packF_zero h
  have h4 : m.1.data.toList.length = 4 := by have := whose_len hw; simpa using this
  rw [hp]
  unfold iso_Parse.f
  have hlen : (m.1.data.toList ++ headM m.2 ++ bodyM m.2).length = 4 + (headM m.2).length + (bodyM m.2).length := by simp only [List.length_append]; omega
  have c1 : ((m.1.data.toList ++ headM m.2 ++ bodyM m.2).take 4).drop 0 = m.1.data.toList := by
    rw [List.drop_zero, List.append_assoc, List.take_append_of_le_length (by omega), List.take_of_length_le (by omega)]
  have c2 : ((m.1.data.toList ++ headM m.2 ++ bodyM m.2).take (m.1.data.toList ++ headM m.2 ++ bodyM m.2).length).drop 4 = headM m.2 ++ bodyM m.2 := by
    rw [List.take_length, List.append_assoc, List.drop_append_of_le_length (by omega), List.drop_of_length_le (by omega), List.nil_append]
  have c3 : ((m.1.data.toList ++ headM m.2 ++ bodyM m.2).take (m.1.data.toList ++ headM m.2 ++ bodyM m.2).length).drop (4 + (headM m.2).length) = bodyM m.2 := by
    rw [List.take_length, show 4 + (headM m.2).length = (m.1.data.toList ++ headM m.2).length by simp only [List.length_append]; omega, List.drop_left]
  have hread : readL (headM m.2 ++ bodyM m.2) = (m.2.map (·.1), ((headM m.2).length : Int), 0) := read_map hmay _
  have hw4 : IntKind.wrap .i64 (4 + ((headM m.2).length : Int)) = ((4 + (headM m.2).length : Nat) : Int) := by rw [wrap_i64 (by omega) (by omega)]; omega
  simp only [bs_size, bs_extract, c1, c2, ← eq_bs, decide_eq_false (show ¬ ((m.1.data.toList ++ headM m.2 ++ bodyM m.2).length : Int) > 4000 by omega), decide_eq_false (show ¬ ((m.1.data.toList ++ headM m.2 ++ bodyM m.2).length : Int) < 4 by omega), decide_eq_true (show (4 : Int) ≤ ((m.1.data.toList ++ headM m.2 ++ bodyM m.2).length : Int) by omega), cond_false, cond_true, Bool.and_self, mtiParse_is, hw, Option.bind_some, bne_self_eq_false,
    read_is (s := headM m.2 ++ bodyM m.2) (by simp only [List.length_append]; omega), hread, hw4, ge0', decide_eq_true (show ((4 + (headM m.2).length : Nat) : Int) ≤ ((m.1.data.toList ++ headM m.2 ++ bodyM m.2).length : Int) by omega), Int.toNat_natCast, c3, parse_rounds hg hok (by omega)]
  obtain ⟨mt, l⟩ := m
  cases l <;> simp only [texts_nil, decide_true, Bool.not_true, cond_false]
theorem same19_is (a b : Msg) (ha : a.2.length ≤ 1000) : bursarref19_Same.f (a, b) = some (decide (a = b)) := by
  obtain ⟨t, l⟩ := a
  obtain ⟨t', l'⟩ := b
  have ha : l.length ≤ 1000 := ha
  unfold bursarref19_Same.f
  simp only [texts_eq]
  by_cases ht : t = t'
  · subst ht
    simp only [decide_true, Bool.not_true, cond_false]
    by_cases he : l.length = l'.length
    · have e : (((l.length : Nat) : Int) != ((l'.length : Nat) : Int)) = false := by rw [he]; simp
      have fld_beq : ∀ x y : Fld, ((x.1 == y.1) && ((ByteArray.toList x.2 == ByteArray.toList y.2) && true)) = decide (x = y) := fun x y => by
        obtain ⟨k, s⟩ := x
        obtain ⟨k', s'⟩ := y
        rw [texts_eq, Bool.and_true, Bool.eq_iff_iff]
        simp
      have hf := rounds_first (t := bursarref19_Same.t6) (fun i => (((i : Nat) : Int), t, l, t, l')) (fun i => bif decide (l.getD i (0, bs []) = l'.getD i (0, bs [])) then none else some (.inl false)) (.inr ()) l.length (fun i hi _ => by
        simp only [bursarref19_Same.t6, inb hi, inb (show i < l'.length by omega), cond_true, ge0' i, Bool.and_self, Int.toNat_natCast, dflt_fld, fld_beq, wrap_up (show i < 9223372036854775807 by omega)]
        cases decide (l.getD i (0, bs []) = l'.getD i (0, bs [])) <;> rfl) (fun _ => by simp only [bursarref19_Same.t6, outb, cond_false])
      have hf' : bursarref19_Same.l6 (0, t, l, t, l') = _ := hf
      simp only [e, cond_false, hf', Option.bind_some]
      have hall : (List.range l.length).all (fun i => decide (l.getD i (0, bs []) = l'.getD i (0, bs []))) = decide (l = l') := by
        rw [Bool.eq_iff_iff, List.all_eq_true, decide_eq_true_eq]
        constructor
        · intro h
          refine List.ext_getElem he fun i h1 h2 => ?_
          have := of_decide_eq_true (h i (List.mem_range.2 h1))
          rwa [getD_at h1, getD_at h2] at this
        · rintro rfl i _; exact decide_eq_true rfl
      rcases find_not (n := l.length) (p := fun i => decide (l.getD i (0, bs []) = l'.getD i (0, bs []))) (g := fun i => Sum.inl (β := Unit) false) with ⟨i, _, h1, h2⟩ | ⟨h1, h2⟩
      · rw [h1]
        rw [hall] at h2
        rw [decide_eq_false (fun h => (of_decide_eq_false h2) (congrArg Prod.snd h))]
        rfl
      · rw [h1]
        rw [hall] at h2
        rw [of_decide_eq_true h2, decide_eq_true rfl]
        rfl
    · have e : (((l.length : Nat) : Int) != ((l'.length : Nat) : Int)) = true := by simp only [bne_iff_ne, ne_eq]; omega
      have hne : ¬ ((t, l) = (t, l')) := fun h => he (congrArg (fun x : Msg => x.2.length) h)
      rw [e, decide_eq_false hne]
      rfl
  · have hne : ¬ ((t, l) = (t', l')) := fun h => ht (congrArg Prod.fst h)
    rw [decide_eq_false ht, decide_eq_false hne]
    rfl
/-! ### a message of which no more is looked at than may be -/
def cutV (f : Fld) : Fld := bif decide ((f.2.size : Int) > 1001) then (f.1, f.2.extract 0 1001) else f
theorem cutV_size (f : Fld) : (cutV f).2.size ≤ 1001 := by
  unfold cutV
  by_cases c : (f.2.size : Int) > 1001
  · rw [decide_eq_true c, cond_true, ByteArray.size_extract]; omega
  · rw [decide_eq_false c, cond_false]; omega
theorem few19_rounds {l : List Fld} (hl : l.length ≤ 130) (t : ByteArray) (z : ByteArray × List Fld × List Fld) (hz : z = (bs [], [], [])) :
    bursarlaw19_Few.l10 (0, t, l, z) = some (l.map cutV, t, l, bs [], []) := by
  subst hz
  have h := rounds_map (t := bursarlaw19_Few.t10) l (0, bs []) cutV (fun acc i => (((i : Nat) : Int), t, l, bs [], acc, ([] : List Fld))) (fun acc => (acc, t, l, bs [], ([] : List Fld))) (fun i hi => by
    have hm : ((l.take i).map cutV).length ≤ 1000 := by simp; omega
    unfold bursarlaw19_Few.t10
    rw [dflt_fld]
    simp only [inb hi, cond_true, ge0' i, Bool.and_self, Int.toNat_natCast, wrap_up (show i < 9223372036854775807 by omega), List.length_cons, List.length_nil]
    rw [Nat.ble_eq_true_of_le (by omega), Nat.ble_eq_true_of_le (by omega)]
    unfold cutV
    by_cases c : ((l.getD i (0, bs [])).2.size : Int) > 1001
    · rw [decide_eq_true c, decide_eq_true (show (1001 : Int) ≤ ((l.getD i (0, bs [])).2.size : Int) by omega)]
      rfl
    · rw [decide_eq_false c]
      rfl) (fun _ _ => by simp only [bursarlaw19_Few.t10, outb, cond_false])
  exact h
theorem few19_is (m : Msg) : ∃ x, bursarlaw19_Few.f m = some x ∧ goodM x := by
  obtain ⟨t, l⟩ := m
  have good : ∀ (t : ByteArray) (l : List Fld), l.length ≤ 130 → goodM (t, l.map cutV) := fun t l h => ⟨by simpa using h, fun f hf => by
    obtain ⟨g, _, rfl⟩ := List.mem_map.1 hf
    exact cutV_size g⟩
  have hc : (List.take 130 (List.drop 0 l)).length ≤ 130 := by simp; omega
  unfold bursarlaw19_Few.f
  by_cases c1 : (l.length : Int) > 130
  · by_cases c2 : (t.size : Int) > 8
    · simp only [decide_eq_true c1, decide_eq_true (show (130 : Int) ≤ (l.length : Int) by omega), decide_eq_true c2, decide_eq_true (show (8 : Int) ≤ (t.size : Int) by omega), Bool.and_self, cond_true, few19_rounds hc _ _ rfl, Option.bind_some]
      exact ⟨_, rfl, good _ _ hc⟩
    · simp only [decide_eq_true c1, decide_eq_true (show (130 : Int) ≤ (l.length : Int) by omega), decide_eq_false c2, Bool.and_self, cond_true, cond_false, few19_rounds hc _ _ rfl, Option.bind_some]
      exact ⟨_, rfl, good _ _ hc⟩
  · by_cases c2 : (t.size : Int) > 8
    · simp only [decide_eq_false c1, decide_eq_true c2, decide_eq_true (show (8 : Int) ≤ (t.size : Int) by omega), Bool.and_self, cond_true, cond_false, few19_rounds (show l.length ≤ 130 by omega) _ _ rfl, Option.bind_some]
      exact ⟨_, rfl, good _ _ (by omega)⟩
    · simp only [decide_eq_false c1, decide_eq_false c2, Bool.and_self, cond_true, cond_false, few19_rounds (show l.length ≤ 130 by omega) _ _ rfl, Option.bind_some]
      exact ⟨_, rfl, good _ _ (by omega)⟩
end Go.Proofs.YtkgnhjmbnmaboaaDoor
end
section
/- The Go function bursarlaw19.awake, as a Lean function, and that it is this one. Written by a program of this session. -/
set_option linter.unusedVariables false
set_option maxRecDepth 100000
namespace Go.Proofs.YtkgnhjmbnmaboaaDoor
open Go Go.Fw
abbrev bursarlaw19_awake.As : Shs := .nil
abbrev bursarlaw19_awake.m : Back := [(false, .b)]
noncomputable abbrev bursarlaw19_awake.H : HK := hk P G1 E0 J0 [iso_Pack.row, iso_Parse.row, bursarref19_Same.row] noLoops 4
theorem bursarlaw19_awake.rows : TabOK P G1 (tabF [iso_Pack.row, iso_Parse.row, bursarref19_Same.row]) := rows_ok (ws := [iso_Pack.row, iso_Parse.row, bursarref19_Same.row]) ⟨iso_Pack.row_ok, ⟨iso_Parse.row_ok, ⟨(bursarref19_Same.row_ok.more g01), trivial⟩⟩⟩
theorem bursarlaw19_awake.hok : HKOK P bursarlaw19_awake.H := hk_ok e0_ok j0_ok bursarlaw19_awake.rows (fun g n => noLoops_ok g n) 4
noncomputable def bursarlaw19_awake.f (a : Unit) : Option Bool := (((iso_Pack.f ((bs [48, 56, 48, 48]), [((70 : Int), (bs [51, 48, 49]))]))).bind fun (x0 : (ByteArray × Int)) => (((iso_Parse.f x0.1)).bind fun (x1 : ((ByteArray × (List (Int × ByteArray))) × Int)) => (((iso_Parse.f (bs [48, 56, 48, 48]))).bind fun (x2 : ((ByteArray × (List (Int × ByteArray))) × Int)) => (bif ((x0.1.size : Int) == (23 : Int)) then (bif (true && (decide (((4 : Int) ≤ (x0.1.size : Int))))) then (bif ((ByteArray.toList (ByteArray.extract x0.1 0 4)) == [(48 : UInt8), (56 : UInt8), (48 : UInt8), (48 : UInt8)]) then (bif (true && (decide (((20 : Int) ≤ (x0.1.size : Int))))) then (bif ((ByteArray.toList (ByteArray.extract x0.1 20 x0.1.size)) == [(51 : UInt8), (48 : UInt8), (49 : UInt8)]) then (bif (x0.2 == (0 : Int)) then (((bursarref19_Same.f (x1.1, ((bs [48, 56, 48, 48]), [((70 : Int), (bs [51, 48, 49]))])))).bind fun (x3 : Bool) => (bif x3 then (bif (x1.2 == (0 : Int)) then (bif (x2.2 == (3 : Int)) then (some true) else (some false)) else (some false)) else (some false))) else (some false)) else (some false)) else none) else (some false)) else none) else (some false)))))
theorem bursarlaw19_awake.ok : ∀ a : Vals bursarlaw19_awake.As.tys, fnK P bursarlaw19_awake.H (lp []) 40 bursarlaw19_awake.As bursarlaw19_awake.m a some = bursarlaw19_awake.f a := fun a => by kernel_rfl
noncomputable abbrev bursarlaw19_awake.row : Row := fnRow 40 bursarlaw19_awake.As bursarlaw19_awake.m bursarlaw19_awake.f
theorem bursarlaw19_awake.row_ok : RowOK P G1 bursarlaw19_awake.row := row_told bursarlaw19_awake.hok (lp_of (l := []) trivial) (fun _ => rfl) bursarlaw19_awake.ok
end Go.Proofs.YtkgnhjmbnmaboaaDoor
end
section
/- IsoPacks: plain law. By this session. -/
set_option linter.unusedVariables false
set_option linter.unusedSimpArgs false
namespace Go.Proofs.YtkgnhjmbnmaboaaDoor
open Go Go.Fw
theorem aw19a : mayL [70] = true ∧ octs8 (mapL [70]) = [128, 0, 0, 0, 0, 0, 0, 0, 4, 0, 0, 0, 0, 0, 0, 0] := ⟨by kernel_rfl, by kernel_rfl⟩
theorem aw19b : whose (bs [48, 56, 48, 48]) = some 27 := by decide +kernel
theorem aw19c : bursarref16_Of.f 70 = some (1, 0, 3) := by kernel_rfl
theorem aw19d : mayF 1 0 3 [51, 48, 49] = true := by decide +kernel
theorem pk70 : pkE (70, bs [51, 48, 49]) = (bs [51, 48, 49], 0) := by
  obtain ⟨k, v, l, hR, hO, hk⟩ := of_is 70
  have e := hR.symm.trans aw19c
  injection e with e
  injection e with e1 e
  injection e with e2 e3
  subst e1 e2 e3
  unfold pkE
  rw [pack_is hO hk (by simp), aw19d]
  rfl
theorem awM : goodM (bs [48, 56, 48, 48], [((70 : Int), bs [51, 48, 49])]) := ⟨by simp, fun f hf => by
  rcases List.mem_cons.1 hf with rfl | hf
  · simp [bs_size]
  · cases hf⟩
theorem awP : packF (bs [48, 56, 48, 48], [((70 : Int), bs [51, 48, 49])]) = (bs [48, 56, 48, 48, 128, 0, 0, 0, 0, 0, 0, 0, 4, 0, 0, 0, 0, 0, 0, 0, 51, 48, 49], 0) := by
  have hb : bodyM [((70 : Int), bs [51, 48, 49])] = [51, 48, 49] := by
    show pkL (70, bs [51, 48, 49]) ++ [] = _
    unfold pkL
    rw [pk70, bs_list, List.append_nil]
  have hh : headM [((70 : Int), bs [51, 48, 49])] = [128, 0, 0, 0, 0, 0, 0, 0, 4, 0, 0, 0, 0, 0, 0, 0] := aw19a.2
  have ho : okP [((70 : Int), bs [51, 48, 49])] = true := by
    show ((pkE (70, bs [51, 48, 49])).2 == 0 && true) = true
    rw [pk70]; rfl
  have hm : mayL ([((70 : Int), bs [51, 48, 49])].map (·.1)) = true := aw19a.1
  unfold packF
  simp only [aw19b, hm, ho, hb, hh, bs_list]
  rfl
theorem read_nil : readL [] = ([], 0, 3) := by decide +kernel
theorem parse_short : iso_Parse.f (bs [48, 56, 48, 48]) = some ((bs [], []), 3) := by
  have r := read_is (s := []) (by simp)
  rw [read_nil] at r
  unfold iso_Parse.f
  simp only [bs_size, bs_extract, List.length_cons, List.length_nil]
  show (mti_Parse.f (bs [48, 56, 48, 48])).bind _ = _
  rw [mtiParse_is, aw19b]
  show (bitmap_Read.f (bs [])).bind _ = _
  rw [r]
  rfl
theorem awake19 : bursarlaw19_awake.f () = some true := by
  have h1 := isoPack_is awM
  have h2 := isoParse_is awM (by rw [awP])
  rw [awP] at h1 h2
  have h3 := same19_is (bs [48, 56, 48, 48], [((70 : Int), bs [51, 48, 49])]) (bs [48, 56, 48, 48], [((70 : Int), bs [51, 48, 49])]) (by simp)
  rw [decide_eq_true rfl] at h3
  unfold bursarlaw19_awake.f
  simp only [h1, h2, parse_short, Option.bind_some, bs_size, bs_extract, texts_list, h3]
  rfl
end Go.Proofs.YtkgnhjmbnmaboaaDoor
end
section
/- Messages with fewer fields. By this session. -/
set_option linter.unusedVariables false
set_option linter.unusedSimpArgs false
namespace Go.Proofs.YtkgnhjmbnmaboaaDoor
open Go Go.Fw
theorem mayL_iff {l : List Int} : mayL l = true ↔ (∀ n ∈ l, hasF n = true) ∧ l.Pairwise (· < ·) := by
  constructor
  · intro h
    refine ⟨fun n hn => ?_, ?_⟩
    · obtain ⟨i, hi, rfl⟩ := List.getElem_of_mem hn
      have := (mayL_at h hi).1
      rwa [getD_at hi] at this
    · rw [List.pairwise_iff_getElem]
      intro i j hi hj hij
      have := mayL_rise h hij hj
      rwa [getD_at hi, getD_at hj] at this
  · rintro ⟨h1, h2⟩
    unfold mayL
    rw [List.all_eq_true]
    intro i hi
    have hi := List.mem_range.1 hi
    unfold okAt
    rw [Bool.and_eq_true, Bool.or_eq_true, decide_eq_true_eq, decide_eq_true_eq]
    refine ⟨by rw [getD_at hi]; exact h1 _ (List.getElem_mem hi), ?_⟩
    by_cases h0 : i = 0
    · exact .inl h0
    · right
      rw [getD_at hi, getD_at (show i - 1 < l.length by omega)]
      exact List.pairwise_iff_getElem.1 h2 (i - 1) i (by omega) hi (by omega)
theorem mayL_sub {l m : List Int} (h : mayL l = true) (hs : m.Sublist l) : mayL m = true := by
  obtain ⟨h1, h2⟩ := mayL_iff.1 h
  exact mayL_iff.2 ⟨fun n hn => h1 n (hs.subset hn), h2.sublist hs⟩
theorem okP_iff {l : List Fld} : okP l = true ↔ ∀ f ∈ l, (pkE f).2 = 0 := by
  unfold okP
  rw [List.all_eq_true]
  constructor
  · intro h f hf
    obtain ⟨i, hi, rfl⟩ := List.getElem_of_mem hf
    have := eq_of_beq (h i (List.mem_range.2 hi))
    rwa [getD_at hi] at this
  · intro h i hi
    have hi := List.mem_range.1 hi
    rw [getD_at hi, h _ (List.getElem_mem hi)]
    rfl
theorem wide_sub {l m : List Int} (hs : m.Sublist l) (h : wide m = true) : wide l = true := by
  unfold wide at h ⊢
  rw [List.any_eq_true] at h ⊢
  obtain ⟨n, hn, h⟩ := h
  exact ⟨n, hs.subset hn, h⟩
theorem bodyM_app (l m : List Fld) : bodyM (l ++ m) = bodyM l ++ bodyM m := by unfold bodyM; simp
theorem bodyM_sub {l m : List Fld} (hs : m.Sublist l) : (bodyM m).length ≤ (bodyM l).length := by
  induction hs with
  | slnil => exact Nat.le_refl _
  | @cons l₁ l₂ a _ ih =>
    have e : bodyM (a :: l₂) = pkL a ++ bodyM l₂ := rfl
    rw [e, List.length_append]; omega
  | @cons_cons l₁ l₂ a _ ih =>
    have e : bodyM (a :: l₂) = pkL a ++ bodyM l₂ := rfl
    have e' : bodyM (a :: l₁) = pkL a ++ bodyM l₁ := rfl
    rw [e, e', List.length_append, List.length_append]; omega
theorem headM_sub {l m : List Fld} (hs : m.Sublist l) : (headM m).length ≤ (headM l).length := by
  rw [headM_len, headM_len]
  cases h : wide (m.map (·.1))
  · cases wide (l.map (·.1)) <;> simp
  · rw [wide_sub (hs.map _) h]; simp
theorem packF_some {m : Msg} {i : Nat} (hw : whose m.1 = some i) (h1 : mayL (m.2.map (·.1)) = true) (h2 : okP m.2 = true) (h3 : 4 + (headM m.2).length + (bodyM m.2).length ≤ 4000) : packF m = (bs (m.1.data.toList ++ headM m.2 ++ bodyM m.2), 0) := by
  unfold packF
  rw [hw]
  simp only
  rw [h1, h2]
  simp only [Bool.and_self, cond_true]
  rw [decide_eq_false (by omega), cond_false]
/-- fewer fields may be packed, too -/
theorem packF_sub {t : ByteArray} {l m : List Fld} (h : (packF (t, l)).2 = 0) (hs : m.Sublist l) : ∃ s, packF (t, m) = (bs s, 0) ∧ s.length = 4 + (headM m).length + (bodyM m).length ∧ mayL (m.map (·.1)) = true := by
  obtain ⟨i, hw, hmay, hok, hle, _⟩ := packF_zero h
  simp only at hw hmay hok hle
  have h4 : t.data.toList.length = 4 := by have := whose_len hw; simpa using this
  have h1 : mayL (m.map (·.1)) = true := mayL_sub hmay (hs.map _)
  have h2 : okP m = true := okP_iff.2 fun f hf => okP_iff.1 hok f (hs.subset hf)
  have b := bodyM_sub hs
  have c := headM_sub hs
  exact ⟨_, packF_some (m := (t, m)) hw h1 h2 (show 4 + (headM m).length + (bodyM m).length ≤ 4000 by omega), by simp only [List.length_append]; omega, h1⟩
theorem less_sub (l : List Fld) (k : Nat) : (l.take k ++ l.drop (k + 1)).Sublist l := by
  conv => rhs; rw [← List.take_append_drop k l]
  refine List.Sublist.append (List.Sublist.refl _) ?_
  rw [← List.drop_drop]
  exact List.drop_sublist _ _
theorem one_sub {l : List Fld} {k : Nat} (h : k < l.length) : [l.getD k (0, bs [])].Sublist l := by
  rw [List.singleton_sublist, getD_at h]
  exact List.getElem_mem h
theorem body_one {l : List Fld} {k : Nat} (h : k < l.length) : (bodyM l).length = (bodyM (l.take k ++ l.drop (k + 1))).length + (bodyM [l.getD k (0, bs [])]).length := by
  have e : l = l.take k ++ ([l.getD k (0, bs [])] ++ l.drop (k + 1)) := by
    conv => lhs; rw [← List.take_append_drop k l, List.drop_eq_getElem_cons h]
    rw [getD_at h]; rfl
  have hl := congrArg (fun x => (bodyM x).length) e
  rw [bodyM_app, bodyM_app, List.length_append, List.length_append] at hl
  rw [bodyM_app, List.length_append]
  omega
/-- how many octets a map has, told by the last field -/
theorem wide_at {l : List Fld} (h : mayL (l.map (·.1)) = true) : ((headM l).length : Int) = bif decide ((l.length : Int) > 0) then (bif decide ((l.getD (l.length - 1) (0, bs [])).1 > 64) then 16 else 8) else 8 := by
  rw [headM_len]
  by_cases h0 : 0 < l.length
  · have hw := wide_last h (by simpa using h0)
    have e : (l.map (fun f : Fld => f.1)).getD ((l.map (fun f : Fld => f.1)).length - 1) 0 = (l.getD (l.length - 1) (0, bs [])).1 := by
      rw [getD_at (by simp; omega), getD_at (by omega)]
      simp
    rw [e] at hw
    rw [hw, decide_eq_true (show (l.length : Int) > 0 by omega), cond_true]
    cases wide (l.map (·.1)) <;> rfl
  · have : l = [] := by cases l with
      | nil => rfl
      | cons a b => simp at h0
    subst this
    rfl
end Go.Proofs.YtkgnhjmbnmaboaaDoor
end
section
/- The Go function bursarlaw19.IsoLong$1, as a Lean function, and that it is this one. Written by a program of this session. -/
set_option linter.unusedVariables false
set_option maxRecDepth 100000
namespace Go.Proofs.YtkgnhjmbnmaboaaDoor
open Go Go.Fw
abbrev bursarlaw19_IsoLong_1.As : Shs := (.cons (.x (.l (.g (.p (.i .i64) .s)))) .nil)
abbrev bursarlaw19_IsoLong_1.m : Back := [(false, (.i .i64))]
noncomputable abbrev bursarlaw19_IsoLong_1.H : HK := hk P G0 E0 J0 [] noLoops 4
theorem bursarlaw19_IsoLong_1.rows : TabOK P G0 (tabF []) := rows_ok (ws := []) trivial
theorem bursarlaw19_IsoLong_1.hok : HKOK P bursarlaw19_IsoLong_1.H := hk_ok e0_ok j0_ok bursarlaw19_IsoLong_1.rows (fun g n => noLoops_ok g n) 4
noncomputable def bursarlaw19_IsoLong_1.f (a : (List (Int × ByteArray))) : Option Int := (bif (decide ((((List.length a) : Int) > (0 : Int)))) then (bif ((decide (((0 : Int) ≤ (IntKind.wrap .i64 (((List.length a) : Int) - (1 : Int)))))) && (decide (((IntKind.wrap .i64 (((List.length a) : Int) - (1 : Int))) < ((List.length a) : Int))))) then (bif (decide (((List.getD a (Int.toNat (IntKind.wrap .i64 (((List.length a) : Int) - (1 : Int)))) (Ty.dflt T_api_Account)).1 > (64 : Int)))) then (some (16 : Int)) else (some (8 : Int))) else none) else (some (8 : Int)))
theorem bursarlaw19_IsoLong_1.ok : ∀ a : Vals bursarlaw19_IsoLong_1.As.tys, fnK P bursarlaw19_IsoLong_1.H (lp []) 41 bursarlaw19_IsoLong_1.As bursarlaw19_IsoLong_1.m a some = bursarlaw19_IsoLong_1.f a := fun a => by kernel_rfl
noncomputable abbrev bursarlaw19_IsoLong_1.row : Row := fnRow 41 bursarlaw19_IsoLong_1.As bursarlaw19_IsoLong_1.m bursarlaw19_IsoLong_1.f
theorem bursarlaw19_IsoLong_1.row_ok : RowOK P G0 bursarlaw19_IsoLong_1.row := row_told bursarlaw19_IsoLong_1.hok (lp_of (l := []) trivial) (fun _ => rfl) bursarlaw19_IsoLong_1.ok
end Go.Proofs.YtkgnhjmbnmaboaaDoor
end
section
/- The Go function bursarlaw19.IsoLong, as a Lean function, and that it is this one. Written by a program of this session. -/
set_option linter.unusedVariables false
set_option maxRecDepth 100000
namespace Go.Proofs.YtkgnhjmbnmaboaaDoor
open Go Go.Fw
abbrev bursarlaw19_IsoLong.As : Shs := (.cons (.x T_api_Message) (.cons (.x (.i .u8)) .nil))
abbrev bursarlaw19_IsoLong.m : Back := [(false, .b)]
noncomputable abbrev bursarlaw19_IsoLong.H : HK := hk P G1 E0 J0 [bursarlaw19_Few.row, iso_Pack.row, bursarlaw19_awake.row, bursarlaw19_IsoLong_1.row] noLoops 4
theorem bursarlaw19_IsoLong.rows : TabOK P G1 (tabF [bursarlaw19_Few.row, iso_Pack.row, bursarlaw19_awake.row, bursarlaw19_IsoLong_1.row]) := rows_ok (ws := [bursarlaw19_Few.row, iso_Pack.row, bursarlaw19_awake.row, bursarlaw19_IsoLong_1.row]) ⟨(bursarlaw19_Few.row_ok.more g01), ⟨iso_Pack.row_ok, ⟨bursarlaw19_awake.row_ok, ⟨(bursarlaw19_IsoLong_1.row_ok.more g01), trivial⟩⟩⟩⟩
theorem bursarlaw19_IsoLong.hok : HKOK P bursarlaw19_IsoLong.H := hk_ok e0_ok j0_ok bursarlaw19_IsoLong.rows (fun g n => noLoops_ok g n) 4
noncomputable def bursarlaw19_IsoLong.f (a : ((ByteArray × (List (Int × ByteArray))) × Int)) : Option Bool := (((bursarlaw19_Few.f a.1)).bind fun (x2 : (ByteArray × (List (Int × ByteArray)))) => (((iso_Pack.f x2)).bind fun (x3 : (ByteArray × Int)) => (bif (x3.2 != (0 : Int)) then (((bursarlaw19_awake.f ())).bind fun (x4 : Bool) => (some x4)) else (bif (((List.length x2.2) : Int) == (0 : Int)) then (((bursarlaw19_awake.f ())).bind fun (x4 : Bool) => (some x4)) else (bif (decide ((((List.length x2.2) : Int) = (0 : Int)))) then none else (bif ((decide (((0 : Int) ≤ (Int.tmod (IntKind.wrap .i64 a.2) ((List.length x2.2) : Int))))) && (decide (((Int.tmod (IntKind.wrap .i64 a.2) ((List.length x2.2) : Int)) ≤ ((List.length x2.2) : Int))))) then (match (List.take ((Int.toNat (Int.tmod (IntKind.wrap .i64 a.2) ((List.length x2.2) : Int))) - 0) (List.drop 0 x2.2)) with | [] => (bif ((decide (((0 : Int) ≤ (IntKind.wrap .i64 ((Int.tmod (IntKind.wrap .i64 a.2) ((List.length x2.2) : Int)) + (1 : Int)))))) && (decide (((IntKind.wrap .i64 ((Int.tmod (IntKind.wrap .i64 a.2) ((List.length x2.2) : Int)) + (1 : Int))) ≤ ((List.length x2.2) : Int))))) then (match (List.take ((List.length x2.2) - (Int.toNat (IntKind.wrap .i64 ((Int.tmod (IntKind.wrap .i64 a.2) ((List.length x2.2) : Int)) + (1 : Int))))) (List.drop (Int.toNat (IntKind.wrap .i64 ((Int.tmod (IntKind.wrap .i64 a.2) ((List.length x2.2) : Int)) + (1 : Int)))) x2.2)) with | [] => (((iso_Pack.f (x2.1, []))).bind fun (x4 : (ByteArray × Int)) => (bif ((decide (((0 : Int) ≤ (Int.tmod (IntKind.wrap .i64 a.2) ((List.length x2.2) : Int))))) && (decide (((Int.tmod (IntKind.wrap .i64 a.2) ((List.length x2.2) : Int)) < ((List.length x2.2) : Int))))) then (((iso_Pack.f (x2.1, ((List.getD x2.2 (Int.toNat (Int.tmod (IntKind.wrap .i64 a.2) ((List.length x2.2) : Int))) (Ty.dflt T_api_Account)) :: [])))).bind fun (x5 : (ByteArray × Int)) => (bif (x4.2 != (0 : Int)) then (some false) else (bif (x5.2 != (0 : Int)) then (some false) else (((bursarlaw19_IsoLong_1.f x2.2)).bind fun (x6 : Int) => (((bursarlaw19_IsoLong_1.f ((List.getD x2.2 (Int.toNat (Int.tmod (IntKind.wrap .i64 a.2) ((List.length x2.2) : Int))) (Ty.dflt T_api_Account)) :: []))).bind fun (x7 : Int) => (bif ((x3.1.size : Int) == (IntKind.wrap .i64 ((IntKind.wrap .i64 ((IntKind.wrap .i64 ((4 : Int) + x6)) + (IntKind.wrap .i64 ((IntKind.wrap .i64 ((x4.1.size : Int) - (4 : Int))) - (8 : Int))))) + (IntKind.wrap .i64 ((IntKind.wrap .i64 ((x5.1.size : Int) - (4 : Int))) - x7))))) then (((bursarlaw19_awake.f ())).bind fun (x8 : Bool) => (some x8)) else (some false))))))) else none)) | x4 :: x5 => (bif ((true && (Nat.ble ((0 + (List.length (x4 :: x5))) * 24) 140737488355328)) && (Nat.ble (0 + (List.length (x4 :: x5))) 140737488355328)) then (((iso_Pack.f (x2.1, ([] ++ (x4 :: x5))))).bind fun (x6 : (ByteArray × Int)) => (bif ((decide (((0 : Int) ≤ (Int.tmod (IntKind.wrap .i64 a.2) ((List.length x2.2) : Int))))) && (decide (((Int.tmod (IntKind.wrap .i64 a.2) ((List.length x2.2) : Int)) < ((List.length x2.2) : Int))))) then (((iso_Pack.f (x2.1, ((List.getD x2.2 (Int.toNat (Int.tmod (IntKind.wrap .i64 a.2) ((List.length x2.2) : Int))) (Ty.dflt T_api_Account)) :: [])))).bind fun (x7 : (ByteArray × Int)) => (bif (x6.2 != (0 : Int)) then (some false) else (bif (x7.2 != (0 : Int)) then (some false) else (((bursarlaw19_IsoLong_1.f x2.2)).bind fun (x8 : Int) => (((bursarlaw19_IsoLong_1.f ([] ++ (x4 :: x5)))).bind fun (x9 : Int) => (((bursarlaw19_IsoLong_1.f ((List.getD x2.2 (Int.toNat (Int.tmod (IntKind.wrap .i64 a.2) ((List.length x2.2) : Int))) (Ty.dflt T_api_Account)) :: []))).bind fun (x10 : Int) => (bif ((x3.1.size : Int) == (IntKind.wrap .i64 ((IntKind.wrap .i64 ((IntKind.wrap .i64 ((4 : Int) + x8)) + (IntKind.wrap .i64 ((IntKind.wrap .i64 ((x6.1.size : Int) - (4 : Int))) - x9)))) + (IntKind.wrap .i64 ((IntKind.wrap .i64 ((x7.1.size : Int) - (4 : Int))) - x10))))) then (((bursarlaw19_awake.f ())).bind fun (x11 : Bool) => (some x11)) else (some false)))))))) else none)) else none)) else none) | x4 :: x5 => (bif ((true && (Nat.ble ((0 + (List.length (x4 :: x5))) * 24) 140737488355328)) && (Nat.ble (0 + (List.length (x4 :: x5))) 140737488355328)) then (bif ((decide (((0 : Int) ≤ (IntKind.wrap .i64 ((Int.tmod (IntKind.wrap .i64 a.2) ((List.length x2.2) : Int)) + (1 : Int)))))) && (decide (((IntKind.wrap .i64 ((Int.tmod (IntKind.wrap .i64 a.2) ((List.length x2.2) : Int)) + (1 : Int))) ≤ ((List.length x2.2) : Int))))) then (match (List.take ((List.length x2.2) - (Int.toNat (IntKind.wrap .i64 ((Int.tmod (IntKind.wrap .i64 a.2) ((List.length x2.2) : Int)) + (1 : Int))))) (List.drop (Int.toNat (IntKind.wrap .i64 ((Int.tmod (IntKind.wrap .i64 a.2) ((List.length x2.2) : Int)) + (1 : Int)))) x2.2)) with | [] => (((iso_Pack.f (x2.1, ([] ++ (x4 :: x5))))).bind fun (x6 : (ByteArray × Int)) => (bif ((decide (((0 : Int) ≤ (Int.tmod (IntKind.wrap .i64 a.2) ((List.length x2.2) : Int))))) && (decide (((Int.tmod (IntKind.wrap .i64 a.2) ((List.length x2.2) : Int)) < ((List.length x2.2) : Int))))) then (((iso_Pack.f (x2.1, ((List.getD x2.2 (Int.toNat (Int.tmod (IntKind.wrap .i64 a.2) ((List.length x2.2) : Int))) (Ty.dflt T_api_Account)) :: [])))).bind fun (x7 : (ByteArray × Int)) => (bif (x6.2 != (0 : Int)) then (some false) else (bif (x7.2 != (0 : Int)) then (some false) else (((bursarlaw19_IsoLong_1.f x2.2)).bind fun (x8 : Int) => (((bursarlaw19_IsoLong_1.f ([] ++ (x4 :: x5)))).bind fun (x9 : Int) => (((bursarlaw19_IsoLong_1.f ((List.getD x2.2 (Int.toNat (Int.tmod (IntKind.wrap .i64 a.2) ((List.length x2.2) : Int))) (Ty.dflt T_api_Account)) :: []))).bind fun (x10 : Int) => (bif ((x3.1.size : Int) == (IntKind.wrap .i64 ((IntKind.wrap .i64 ((IntKind.wrap .i64 ((4 : Int) + x8)) + (IntKind.wrap .i64 ((IntKind.wrap .i64 ((x6.1.size : Int) - (4 : Int))) - x9)))) + (IntKind.wrap .i64 ((IntKind.wrap .i64 ((x7.1.size : Int) - (4 : Int))) - x10))))) then (((bursarlaw19_awake.f ())).bind fun (x11 : Bool) => (some x11)) else (some false)))))))) else none)) | x6 :: x7 => (bif ((true && (Nat.ble (((List.length ([] ++ (x4 :: x5))) + (List.length (x6 :: x7))) * 24) 140737488355328)) && (Nat.ble ((List.length ([] ++ (x4 :: x5))) + (List.length (x6 :: x7))) 140737488355328)) then (((iso_Pack.f (x2.1, (([] ++ (x4 :: x5)) ++ (x6 :: x7))))).bind fun (x8 : (ByteArray × Int)) => (bif ((decide (((0 : Int) ≤ (Int.tmod (IntKind.wrap .i64 a.2) ((List.length x2.2) : Int))))) && (decide (((Int.tmod (IntKind.wrap .i64 a.2) ((List.length x2.2) : Int)) < ((List.length x2.2) : Int))))) then (((iso_Pack.f (x2.1, ((List.getD x2.2 (Int.toNat (Int.tmod (IntKind.wrap .i64 a.2) ((List.length x2.2) : Int))) (Ty.dflt T_api_Account)) :: [])))).bind fun (x9 : (ByteArray × Int)) => (bif (x8.2 != (0 : Int)) then (some false) else (bif (x9.2 != (0 : Int)) then (some false) else (((bursarlaw19_IsoLong_1.f x2.2)).bind fun (x10 : Int) => (((bursarlaw19_IsoLong_1.f (([] ++ (x4 :: x5)) ++ (x6 :: x7)))).bind fun (x11 : Int) => (((bursarlaw19_IsoLong_1.f ((List.getD x2.2 (Int.toNat (Int.tmod (IntKind.wrap .i64 a.2) ((List.length x2.2) : Int))) (Ty.dflt T_api_Account)) :: []))).bind fun (x12 : Int) => (bif ((x3.1.size : Int) == (IntKind.wrap .i64 ((IntKind.wrap .i64 ((IntKind.wrap .i64 ((4 : Int) + x10)) + (IntKind.wrap .i64 ((IntKind.wrap .i64 ((x8.1.size : Int) - (4 : Int))) - x11)))) + (IntKind.wrap .i64 ((IntKind.wrap .i64 ((x9.1.size : Int) - (4 : Int))) - x12))))) then (((bursarlaw19_awake.f ())).bind fun (x13 : Bool) => (some x13)) else (some false)))))))) else none)) else none)) else none) else none)) else none))))))
theorem bursarlaw19_IsoLong.ok : ∀ a : Vals bursarlaw19_IsoLong.As.tys, fnK P bursarlaw19_IsoLong.H (lp []) 10 bursarlaw19_IsoLong.As bursarlaw19_IsoLong.m a some = bursarlaw19_IsoLong.f a := fun a => by kernel_rfl
noncomputable abbrev bursarlaw19_IsoLong.row : Row := fnRow 10 bursarlaw19_IsoLong.As bursarlaw19_IsoLong.m bursarlaw19_IsoLong.f
theorem bursarlaw19_IsoLong.row_ok : RowOK P G1 bursarlaw19_IsoLong.row := row_told bursarlaw19_IsoLong.hok (lp_of (l := []) trivial) (fun _ => rfl) bursarlaw19_IsoLong.ok
end Go.Proofs.YtkgnhjmbnmaboaaDoor
end
section
/- IsoLong: plain law. By this session. -/
set_option linter.unusedVariables false
set_option linter.unusedSimpArgs false
namespace Go.Proofs.YtkgnhjmbnmaboaaDoor
open Go Go.Fw
theorem bounds8 {n : Int} (h : (Lit.int .u8 n).wf = true) : 0 ≤ n ∧ n ≤ 255 := by
  simp [Lit.wf, IntKind.min, IntKind.max, IntKind.signed, IntKind.bits] at h
  omega
theorem wide1_is {l : List Fld} (hl : l.length ≤ 1000) (h : mayL (l.map (·.1)) = true) : bursarlaw19_IsoLong_1.f l = some (((headM l).length : Nat) : Int) := by
  unfold bursarlaw19_IsoLong_1.f
  rw [wide_at h]
  by_cases h0 : (l.length : Int) > 0
  · have w : IntKind.wrap .i64 ((l.length : Int) - 1) = ((l.length - 1 : Nat) : Int) := by rw [wrap_i64 (by omega) (by omega)]; omega
    rw [decide_eq_true h0, w, dflt_fld]
    simp only [ge0', inb (show l.length - 1 < l.length by omega), Bool.and_self, cond_true, Int.toNat_natCast]
    by_cases c : (l.getD (l.length - 1) (0, bs [])).1 > 64
    · rw [decide_eq_true c]; rfl
    · rw [decide_eq_false c]; rfl
  · rw [decide_eq_false h0]; rfl
theorem long_sum {s H t Hl u Ho Bl Bo : Nat} (hs : s = 4 + H + (Bl + Bo)) (ht : t = 4 + Hl + Bl) (hu : u = 4 + Ho + Bo) (hb : s ≤ 10000) (hb1 : t ≤ 10000) (hb2 : u ≤ 10000) :
    ((s : Int) == IntKind.wrap .i64 (IntKind.wrap .i64 (IntKind.wrap .i64 ((4 : Int) + (H : Int)) + IntKind.wrap .i64 (IntKind.wrap .i64 ((t : Int) - 4) - (Hl : Int))) + IntKind.wrap .i64 (IntKind.wrap .i64 ((u : Int) - 4) - (Ho : Int)))) = true := by
  have e1 : IntKind.wrap .i64 ((4 : Int) + (H : Int)) = 4 + (H : Int) := wrap_i64 (by omega) (by omega)
  have e2 : IntKind.wrap .i64 ((t : Int) - 4) = (t : Int) - 4 := wrap_i64 (by omega) (by omega)
  have e3 : IntKind.wrap .i64 ((t : Int) - 4 - (Hl : Int)) = (t : Int) - 4 - (Hl : Int) := wrap_i64 (by omega) (by omega)
  have e4 : IntKind.wrap .i64 ((u : Int) - 4) = (u : Int) - 4 := wrap_i64 (by omega) (by omega)
  have e5 : IntKind.wrap .i64 ((u : Int) - 4 - (Ho : Int)) = (u : Int) - 4 - (Ho : Int) := wrap_i64 (by omega) (by omega)
  have e6 : IntKind.wrap .i64 (4 + (H : Int) + ((t : Int) - 4 - (Hl : Int))) = 4 + (H : Int) + ((t : Int) - 4 - (Hl : Int)) := wrap_i64 (by omega) (by omega)
  have e7 : IntKind.wrap .i64 (4 + (H : Int) + ((t : Int) - 4 - (Hl : Int)) + ((u : Int) - 4 - (Ho : Int))) = 4 + (H : Int) + ((t : Int) - 4 - (Hl : Int)) + ((u : Int) - 4 - (Ho : Int)) := wrap_i64 (by omega) (by omega)
  rw [e1, e2, e3, e4, e5, e6, e7, beq_iff_eq]
  omega
theorem IsoLong_is (a : Msg × Int) (hw : 0 ≤ a.2 ∧ a.2 ≤ 255) : bursarlaw19_IsoLong.f a = some true := by
  obtain ⟨a1, w⟩ := a
  obtain ⟨⟨t, l⟩, hm, hg⟩ := few19_is a1
  have hl : l.length ≤ 130 := hg.1
  have hf : ∀ f ∈ l, f.2.size ≤ 1001 := hg.2
  have gsub : ∀ {m : List Fld}, m.Sublist l → goodM (t, m) := fun {m} hs => ⟨by have := hs.length_le; show m.length ≤ 130; omega, fun f hf' => hf f (hs.subset hf')⟩
  have hw1 : 0 ≤ w := hw.1
  have hw2 : w ≤ 255 := hw.2
  unfold bursarlaw19_IsoLong.f
  simp only [hm, Option.bind_some, isoPack_is hg, awake19]
  by_cases h0 : (packF (t, l)).2 = 0
  · obtain ⟨s, hs, hsl, hsm⟩ := packF_sub h0 (List.Sublist.refl l)
    have hle : s.length ≤ 4000 := by
      obtain ⟨_, _, _, _, h, _⟩ := packF_zero h0
      simp only at h
      omega
    rw [hs]
    simp only [bne_self_eq_false, cond_false]
    by_cases hn : l.length = 0
    · rw [show ((l.length : Int) == 0) = true by rw [beq_iff_eq]; omega]
      rfl
    · have e1 : ((l.length : Int) == 0) = false := by rw [beq_eq_false_iff_ne]; omega
      have e2 : decide ((l.length : Int) = 0) = false := decide_eq_false (by omega)
      obtain ⟨n, rfl⟩ : ∃ n : Nat, w = n := ⟨w.toNat, by omega⟩
      obtain ⟨k, hk⟩ : ∃ k, n % l.length = k := ⟨_, rfl⟩
      have hkl : k < l.length := by rw [← hk]; exact Nat.mod_lt _ (by omega)
      have ek : Int.tmod (IntKind.wrap .i64 (n : Int)) (l.length : Int) = (k : Int) := by
        rw [wrap_i64 (by omega) (by omega), ← hk]; exact (Int.ofNat_tmod _ _).symm
      have ek1 : IntKind.wrap .i64 ((k : Int) + 1) = ((k + 1 : Nat) : Int) := by rw [wrap_i64 (by omega) (by omega)]; omega
      obtain ⟨u, hu, hul, hum⟩ := packF_sub h0 (one_sub hkl)
      obtain ⟨v, hv, hvl, hvm⟩ := packF_sub h0 (less_sub l k)
      have hb := body_one hkl
      have cut : (l.drop (k + 1)).take (l.length - (k + 1)) = l.drop (k + 1) := List.take_of_length_le (by rw [List.length_drop]; omega)
      have hub := bodyM_sub (one_sub hkl)
      have huh := headM_sub (one_sub hkl)
      have hvb := bodyM_sub (less_sub l k)
      have hvh := headM_sub (less_sub l k)
      have hpu := isoPack_is (gsub (one_sub hkl))
      have hpv := isoPack_is (gsub (less_sub l k))
      rw [hu] at hpu
      rw [hv] at hpv
      have w1 := wide1_is (by omega) hsm
      have w2 := wide1_is (l := [l.getD k (0, bs [])]) (by simp) hum
      have w3 := wide1_is (l := l.take k ++ l.drop (k + 1)) (by have := (less_sub l k).length_le; omega) hvm
      have sum := long_sum (s := s.length) (H := (headM l).length) (t := v.length) (Hl := (headM (l.take k ++ l.drop (k + 1))).length) (u := u.length) (Ho := (headM [l.getD k (0, bs [])]).length) (Bl := (bodyM (l.take k ++ l.drop (k + 1))).length) (Bo := (bodyM [l.getD k (0, bs [])]).length) (by omega) (by omega) (by omega) (by omega) (by omega) (by omega)
      have hp : (l.take k).length ≤ 130 := by simp; omega
      have hq : (l.drop (k + 1)).length ≤ 130 := by simp; omega
      rw [dflt_fld]
      simp only [e1, e2, cond_false, ek, ek1, ge0', inb hkl, decide_eq_true (show (k : Int) ≤ (l.length : Int) by omega), decide_eq_true (show ((k + 1 : Nat) : Int) ≤ (l.length : Int) by omega), Bool.and_self, cond_true, Int.toNat_natCast, Nat.sub_zero, List.drop_zero, cut, w1, w2, hpu, Option.bind_some, bs_size, bne_self_eq_false]
      obtain ⟨p, hpe⟩ : ∃ p, l.take k = p := ⟨_, rfl⟩
      obtain ⟨q, hqe⟩ : ∃ q, l.drop (k + 1) = q := ⟨_, rfl⟩
      rw [hpe, hqe] at hpv w3 sum
      rw [hpe] at hp
      rw [hqe] at hq
      rw [hpe, hqe]
      cases p with
      | nil =>
        cases q with
        | nil =>
          have h8 : ((headM ([] ++ [])).length : Int) = 8 := by decide +kernel
          rw [h8] at sum
          simp only [List.append_nil] at hpv
          simp only [hpv, Option.bind_some, bne_self_eq_false, cond_false, bs_size, sum, cond_true]
        | cons y q =>
          simp only [List.nil_append] at hpv w3 sum
          simp only [List.nil_append, hpv, w3, Option.bind_some, bne_self_eq_false, cond_false, bs_size, sum, cond_true]
          rw [Nat.ble_eq_true_of_le (by omega), Nat.ble_eq_true_of_le (by omega)]
          rfl
      | cons x p =>
        cases q with
        | nil =>
          simp only [List.append_nil] at hpv w3 sum
          simp only [List.nil_append, hpv, w3, Option.bind_some, bne_self_eq_false, cond_false, bs_size, sum, cond_true]
          rw [Nat.ble_eq_true_of_le (by omega), Nat.ble_eq_true_of_le (by omega)]
          rfl
        | cons y q =>
          simp only [List.nil_append, hpv, w3, Option.bind_some, bne_self_eq_false, cond_false, bs_size, sum, cond_true]
          rw [Nat.ble_eq_true_of_le (by omega), Nat.ble_eq_true_of_le (by omega), Nat.ble_eq_true_of_le (by omega), Nat.ble_eq_true_of_le (by omega)]
          rfl
  · have e : ((packF (t, l)).2 != 0) = true := by simpa using h0
    rw [e]
    rfl
end Go.Proofs.YtkgnhjmbnmaboaaDoor
end
section
/- A message's octets are its digits, its map's and its fields', and no others. -/
set_option linter.unusedVariables false
set_option linter.unusedSimpArgs false
namespace Go.Proofs.YtkgnhjmbnmaboaaDoor.isoLong
open Go Go.Fw Go.ChangeShapes Go.WideShapes Go.ChangeAt Go.RowKit
theorem own : ownKnob Tryd.prog.godebug = none := by kernel_rfl
theorem laidOut : laidOutB Tryd.prog = true := by kernel_rfl
set_option maxRecDepth 100000 in
theorem told {W : World} (h : laidMetH Tryd.prog Rows.isoLongRow.laid W) : Glob ⟨W, fun b => b < W.heap.size, fun _ => False, fun _ => 0, fun _ => 0, G1⟩ := by
  rw [MakeChecks.laidMetH_plain _ _ _ (by kernel_rfl)] at h
  have f5 := globAt_tab (P := Tryd.prog) (g := 5) (k := .u64) (zs := [1, 10, 100, 1000, 10000, 100000, 1000000, 10000000, 100000000, 1000000000, 10000000000, 100000000000, 1000000000000, 10000000000000, 100000000000000, 1000000000000000, 10000000000000000, 100000000000000000, 1000000000000000000, 10000000000000000000]) (by kernel_rfl) (Lib.tabIs_of_head (g := 5) (by kernel_rfl) (by kernel_rfl) Tryd.underlying209 Tryd.underlying134 (by kernel_rfl) (by kernel_rfl) (laidMet.tail (laidMet.tail h)))
  have f2 := globAt_err (P := Tryd.prog) (g := 2) (by kernel_rfl) (laid_err (g := 2) (laidMet.tail (laidMet.tail (laidMet.tail (laidMet.tail h)))) (by kernel_rfl) (by kernel_rfl) Tryd.underlying102)
  have f1 := globAt_err (P := Tryd.prog) (g := 1) (by kernel_rfl) (laid_err (g := 1) (laidMet.tail (laidMet.tail (laidMet.tail (laidMet.tail (laidMet.tail h))))) (by kernel_rfl) (by kernel_rfl) Tryd.underlying102)
  have f0 := globAt_tab (P := Tryd.prog) (g := 0) (k := .u8) (zs := [0, 0, 0, 0, 0, 0, 0, 0, 0, 1, 1, 1, 1, 1, 0, 0, 0, 0, 0, 0, 0, 0, 0, 0, 0, 0, 0, 0, 0, 0, 0, 0, 1, 0, 0, 0, 0, 0, 0, 0, 0, 0, 0, 0, 0, 0, 0, 0, 0, 0, 0, 0, 0, 0, 0, 0, 0, 0, 0, 0, 0, 0, 0, 0, 0, 0, 0, 0, 0, 0, 0, 0, 0, 0, 0, 0, 0, 0, 0, 0, 0, 0, 0, 0, 0, 0, 0, 0, 0, 0, 0, 0, 0, 0, 0, 0, 0, 0, 0, 0, 0, 0, 0, 0, 0, 0, 0, 0, 0, 0, 0, 0, 0, 0, 0, 0, 0, 0, 0, 0, 0, 0, 0, 0, 0, 0, 0, 0, 0, 0, 0, 0, 0, 0, 0, 0, 0, 0, 0, 0, 0, 0, 0, 0, 0, 0, 0, 0, 0, 0, 0, 0, 0, 0, 0, 0, 0, 0, 0, 0, 0, 0, 0, 0, 0, 0, 0, 0, 0, 0, 0, 0, 0, 0, 0, 0, 0, 0, 0, 0, 0, 0, 0, 0, 0, 0, 0, 0, 0, 0, 0, 0, 0, 0, 0, 0, 0, 0, 0, 0, 0, 0, 0, 0, 0, 0, 0, 0, 0, 0, 0, 0, 0, 0, 0, 0, 0, 0, 0, 0, 0, 0, 0, 0, 0, 0, 0, 0, 0, 0, 0, 0, 0, 0, 0, 0, 0, 0, 0, 0, 0, 0, 0, 0, 0, 0, 0, 0, 0, 0, 0, 0, 0, 0, 0, 0]) (by kernel_rfl) (Lib.tabIs_of_head (g := 0) (by kernel_rfl) (by kernel_rfl) Tryd.underlying169 Tryd.underlying5 (by kernel_rfl) (by kernel_rfl) (laidMet.tail (laidMet.tail (laidMet.tail (laidMet.tail (laidMet.tail (laidMet.tail (laidMet.tail h))))))))
  exact (glob_cons f5 (glob_cons f0 (glob_cons f1 (glob_cons f2 glob_none'))))
set_option maxRecDepth 100000 in
theorem lifted (os : Os) (started : os.Started) (H : Type) (enc : TypeId × Value → H) :
    ReturnsInHanded {} Tryd.checked os 10 .any (fun w args => (Rows.isoLongSpec.pre enc Tryd.prog Tryd.f10 [] false w args ∧ laidMetH Tryd.prog Rows.isoLongRow.laid w) ∧ sizedMet enc Tryd.prog Tryd.f10 (OpenSpec.ofChange Rows.isoLongSpec) false w args)
      (Rows.isoLongSpec.post enc Tryd.prog Tryd.f10 false true false false) := by
  refine returnsInHanded_of_change_and (C := Tryd.checked) (X := fun w _ => laidMetH Tryd.prog Rows.isoLongRow.laid w) (fun _ _ _ hh h => h.of_heap hh) own started (by kernel_rfl) Tryd.func10
    (ChangeSpec.witness_shaped (enc := enc) (C := Tryd.checked) (os := os) (X := fun w _ => laidMetH Tryd.prog Rows.isoLongRow.laid w) false (World.laidAll Tryd.prog os Rows.isoLongRow.laid) #[.agg #[.string ByteArray.empty, .slice none 0 0], .int .u8 0] 8 (World.laidAll_os _ _ _) (World.shaped_of_ZipB (by kernel_rfl) (by kernel_rfl)) (by kernel_rfl) (by kernel_rfl) (by kernel_rfl) (by rw [MakeChecks.laidMetH_plain _ _ _ (by kernel_rfl)]; exact laidMet_laidAll _ (by kernel_rfl) (by kernel_rfl))) ?_
  intro W base args ds gs before hval hW _ _ hL _
  exact law_call (P := Tryd.prog) (g := 10) (tb := Tryd.f10.resultTypes.getD 0 0) laidOut bursarlaw19_IsoLong.row_ok (told hL) (by kernel_rfl) (fun a => by kernel_rfl) (by kernel_rfl) (by kernel_rfl) rfl
    (fun ds h => match ds, h with | [_, _], _ => ⟨rfl, rfl, rfl⟩) (fun a ha => IsoLong_is a (bounds8 ha.2)) hval hW
set_option maxRecDepth 100000 in
theorem over : Rows.isoLongRow.holds Tryd.pinned (OpenSpec.ofChange Rows.isoLongSpec) :=
  OpenClaim.holds_of_wide 10 Tryd.f10 rfl rfl rfl rfl rfl rfl rfl ⟨rfl, rfl, rfl, rfl, rfl⟩ rfl rfl rfl rfl rfl (by kernel_rfl) Tryd.func10 (by kernel_rfl)
    (of_decide_eq_true (by kernel_rfl)) (by unfold Func.isWrapper; first | (rw [if_pos (by decide +kernel)]; kernel_rfl) | (rw [if_neg (by decide +kernel)]; exact ⟨rfl, rfl⟩))
    (fun os started H enc _ => lifted os started H enc)
theorem plainParams : (Tryd.f10.params.toList.all fun t => !(Tryd.prog.wantsStandIn t)) = true := by kernel_rfl
theorem card : Rows.IsoLongCardSaid :=
  Claim7.holds_tied_plain_at .later [] [.data, .data, .data, .data, .sentinel, .sentinel, .listed, .data, .pinned] true (true, "2e0c885f8446b61dc3283b514c59b90490802f1eb18fc4e80228db72dbdbad7b") true
    over (fun _ h => by cases h) (by kernel_rfl) (fun _ h => by cases h) isoLong_row_tie rfl ⟨rfl, rfl⟩ (by kernel_rfl) rfl
    (fun f fn hf hfn => by
      obtain rfl : f = 10 := Option.some.inj ((show Tryd.prog.funcNamed "bursar/bursarlaw19.IsoLong" = some 10 by kernel_rfl).symm.trans hf) |>.symm
      obtain rfl : fn = Tryd.f10 := (Option.some.inj (Tryd.func10.symm.trans hfn)).symm
      exact ⟨by kernel_rfl, fun j t ht => by
        have h := List.all_eq_true.1 plainParams t (by rw [← Array.getElem?_toList] at ht; exact List.mem_of_getElem? ht)
        exact (show Tryd.prog.wantsStandIn t = false by simpa using h)⟩)
    (by kernel_rfl)
end Go.Proofs.YtkgnhjmbnmaboaaDoor.isoLong
namespace Go.Proofs.YtkgnhjmbnmaboaaDoor
/-- The given statement. -/
theorem isoLong_holds : Rows.IsoLongCardSaid := isoLong.card
#print axioms isoLong_holds
end Go.Proofs.YtkgnhjmbnmaboaaDoor
end
