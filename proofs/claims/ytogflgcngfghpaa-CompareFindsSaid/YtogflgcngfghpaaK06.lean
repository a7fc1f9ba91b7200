/- A part of the proof: Answers: the program and the reference give the same. No condition. -/
import Derived.Test.YtogflgcngfghpaaK05
section
set_option maxHeartbeats 1000000
set_option linter.unusedVariables false
set_option linter.unusedSimpArgs false
namespace Go.Proofs.Ytogflgcngfghpaa
open Go.J
theorem whileW_from {β σ ρ : Type} {body : σ → Option (List β × Rd σ ρ)} (st : Nat → σ) (g : Nat → List β) {ys : List β} {s' : σ} : ∀ (m k K : Nat), m < K → (∀ i, k ≤ i → i < k + m → body (st i) = some (g i, .next (st (i + 1)))) → body (st (k + m)) = some (ys, .done s') → whileW body K (st k) = some ((List.range' k m).flatMap g ++ ys, .go s')
  | 0, k, K, hK, h, he => by
    obtain ⟨q, rfl⟩ : ∃ q, K = q + 1 := ⟨K - 1, by omega⟩
    rw [Nat.add_zero] at he
    rw [whileW, he]
    simp [stepW]
  | m + 1, k, K, hK, h, he => by
    obtain ⟨q, rfl⟩ : ∃ q, K = q + 1 := ⟨K - 1, by omega⟩
    have ih := whileW_from st g m (k + 1) q (by omega) (fun i h1 h2 => h i (by omega) (by omega)) (by rw [show k + 1 + m = k + (m + 1) by omega]; exact he)
    rw [whileW, h k (Nat.le_refl _) (by omega)]
    simp [stepW, ih, List.range'_succ]
def chunksS {α : Type} (v : List α) (c : Nat) : List (List α) := (List.range ((v.length + c - 1) / c)).map fun k => (v.drop (c * k)).take c
theorem chunk_way {α : Type} (v : List α) (c : Nat) (hc : 1 ≤ c) (hc2 : c ≤ 1000000) (hl : v.length ≤ 1000000) : ∃ e, whileW (σ := Int) (ρ := Unit) (β := List α) (fun s1 => if (decide (s1 < (v.length : Int))) = true then (slc v s1 (v.length : Int)).bind fun x14 => (slc v s1 (IntKind.i64.wrap (s1 + (min (c : Int) (x14.length : Int))))).bind fun x15 => emitP x15 (some ([], Rd.next (IntKind.i64.wrap (s1 + (c : Int))))) else some ([], Rd.done s1)) bigK 0 = some (chunksS v c, .go e) := by
  have hdiv : (v.length + c - 1) / c ≤ v.length := by
    rcases Nat.eq_zero_or_pos v.length with h | h
    · rw [h, Nat.zero_add, Nat.div_eq_of_lt (by omega)]; omega
    · refine Nat.div_le_of_le_mul ?_
      have : v.length * 1 ≤ v.length * c := Nat.mul_le_mul_left _ hc
      have h2 : c * 1 ≤ c * v.length := Nat.mul_le_mul_left _ h
      rw [Nat.mul_comm v.length c] at this
      have : (c - 1) * (v.length - 1) ≥ 0 := Nat.zero_le _
      have e : c * v.length = (c - 1) * (v.length - 1) + (c - 1) + v.length := by
        obtain ⟨c', rfl⟩ : ∃ c', c = c' + 1 := ⟨c - 1, by omega⟩
        obtain ⟨l', hl'⟩ : ∃ l', v.length = l' + 1 := ⟨v.length - 1, by omega⟩
        rw [hl']; simp only [Nat.add_sub_cancel]
        rw [Nat.add_mul, Nat.mul_add]; omega
      omega
  have hlast : ∀ k, k < (v.length + c - 1) / c → c * k < v.length := fun k hk => by
    have := (Nat.le_div_iff_mul_le (by omega : 0 < c)).1 (Nat.succ_le_of_lt hk)
    rw [Nat.succ_mul, Nat.mul_comm] at this
    omega
  have hend : v.length ≤ c * ((v.length + c - 1) / c) := by
    have := Nat.div_add_mod (v.length + c - 1) c
    have h2 := Nat.mod_lt (v.length + c - 1) (show 0 < c by omega)
    omega
  have := whileW_from (ρ := Unit) (β := List α) (body := fun s1 => if (decide (s1 < (v.length : Int))) = true then (slc v s1 (v.length : Int)).bind fun x14 => (slc v s1 (IntKind.i64.wrap (s1 + (min (c : Int) (x14.length : Int))))).bind fun x15 => emitP x15 (some ([], Rd.next (IntKind.i64.wrap (s1 + (c : Int))))) else some ([], Rd.done s1))
    (fun k => ((c * k : Nat) : Int)) (fun k => [(v.drop (c * k)).take c]) (ys := []) (s' := ((c * ((v.length + c - 1) / c) : Nat) : Int)) ((v.length + c - 1) / c) 0 bigK (by simp [bigK]; omega) (fun k _ hk => by
      have h1 := hlast k (by omega)
      rw [if_pos (by simp only [decide_eq_true_eq]; omega), slc_ok (by omega) (Nat.le_refl _)]
      simp only [Option.bind_some, List.length_take, List.length_drop]
      have e1 : ((c * k : Nat) : Int) + min (c : Int) ((min (v.length - c * k) (v.length - c * k) : Nat) : Int) = ((c * k + min c (v.length - c * k) : Nat) : Int) := by omega
      have e2 : ((c * k : Nat) : Int) + (c : Int) = ((c * (k + 1) : Nat) : Int) := by rw [Nat.mul_succ]; omega
      have h3 : c * (k + 1) ≤ 2000000 := by rw [Nat.mul_succ]; omega
      rw [e1, e2, w64 (by omega) (by omega), w64 (by omega) (by omega), slc_ok (by omega) (by omega)]
      simp only [Option.bind_some, emitP, Option.map_some]
      congr 3
      rw [show c * k + min c (v.length - c * k) - c * k = min c (v.length - c * k) by omega]
      rw [← List.length_drop, ← List.take_eq_take_min]) (by
      rw [Nat.zero_add, if_neg (by simp only [decide_eq_true_eq]; omega)])
  rw [show ((c * 0 : Nat) : Int) = 0 by simp] at this
  refine ⟨((c * ((v.length + c - 1) / c) : Nat) : Int), this.trans ?_⟩
  have e : (List.range' 0 ((v.length + c - 1) / c)).flatMap (fun k => [(v.drop (c * k)).take c]) ++ [] = chunksS v c := by
    rw [List.append_nil]
    unfold chunksS
    rw [← List.range_eq_range', List.map_eq_flatMap]
  rw [e]
theorem chunkInt_eq {v : List Int} (hl : v.length ≤ 1000000) : f_slices_Chunk_int_int v 2 = some (chunksS v 2) := by
  unfold f_slices_Chunk_int_int f_slices_Chunk_int_int_1
  obtain ⟨e, he⟩ := chunk_way v 2 (by omega) (by omega) hl
  have he : whileW (σ := Int) (ρ := Unit) (β := List Int) (fun s1 => if (decide (s1 < (v.length : Int))) = true then (slc v s1 (v.length : Int)).bind fun x14 => (slc v s1 (IntKind.i64.wrap (s1 + (min 2 (x14.length : Int))))).bind fun x15 => emitP x15 (some ([], Rd.next (IntKind.i64.wrap (s1 + 2)))) else some ([], Rd.done s1)) bigK 0 = _ := he
  rw [he]
  simp [Fl.then, thenP]
/-! ### What a request asks for -/
def pairsS (V : List Int) : List api_Extent := (List.range ((V.length - 2) / 2)).map fun (k : Nat) => (⟨V.getD (2 + 2 * k) 0, V.getD (3 + 2 * k) 0⟩ : api_Extent)
theorem pairs_EI {V : List Int} (h : ∀ x ∈ V, I64 x) : ∀ e ∈ pairsS V, EI e := fun e he => by
  obtain ⟨k, hk, rfl⟩ := List.mem_map.1 he
  have hd : ∀ i, I64 (V.getD i 0) := fun i => by
    rw [List.getD_eq_getElem?_getD]
    cases hi : V[i]? with
    | none => simp [I64]
    | some x => exact h x (List.mem_of_getElem? hi)
  exact ⟨hd _, hd _⟩
theorem pairs_len (V : List Int) : (pairsS V).length = (V.length - 2) / 2 := by simp [pairsS]
theorem parse_eq {V : List Int} (h2 : 2 ≤ V.length) (he : V.length % 2 = 0) (hl : V.length ≤ 100000) : eachN (σ := List api_Extent) (fun x20 s18 => (idx x20 0).bind fun x25 => (idx x20 1).bind fun x26 => (app 16 s18 [(⟨x25, x26⟩ : api_Extent)]).bind fun x27 => some (Rd.next x27)) (chunksS (V.drop 2) 2) [] = some (pairsS V) := by
  let toE : List Int → api_Extent := fun x => ⟨x.getD 0 0, x.getD 1 0⟩
  have hc : ∀ x ∈ chunksS (V.drop 2) 2, x.length = 2 := fun x hx => by
    obtain ⟨k, hk, rfl⟩ := List.mem_map.1 hx
    simp at hk ⊢
    omega
  have := eachN_inv (b := fun (x20 : List Int) (s18 : List api_Extent) => (idx x20 0).bind fun x25 => (idx x20 1).bind fun x26 => (app 16 s18 [(⟨x25, x26⟩ : api_Extent)]).bind fun x27 => some (Rd.next x27)) (fun pre => pre.map toE) (l := chunksS (V.drop 2) 2) (fun pre x suf hp => by
    have hx := hc x (by rw [hp]; simp)
    have hpl : pre.length ≤ 100000 := by
      have : (chunksS (V.drop 2) 2).length ≤ 100000 := by simp [chunksS]; omega
      rw [hp] at this; simp at this; omega
    match x, hx with
    | [a, b], _ =>
      simp only [idx_zero, Option.bind_some]
      rw [show idx [a, b] 1 = some b from rfl]
      simp only [Option.bind_some]
      rw [app_ok (by simp [lim]; omega) (by simp [lim]; omega)]
      simp [toE])
  simp only [List.map_nil] at this
  rw [this]
  congr 1
  unfold chunksS pairsS
  rw [List.map_map]
  rw [show ((V.drop 2).length + 2 - 1) / 2 = (V.length - 2) / 2 by simp; omega]
  refine List.map_congr_left fun k hk => ?_
  have hk := List.mem_range.1 hk
  simp only [Function.comp, toE, List.drop_drop, List.getD_eq_getElem?_getD]
  rw [List.getElem?_take_of_lt (by omega), List.getElem?_take_of_lt (by omega), List.getElem?_drop, List.getElem?_drop]
  rw [show 2 + 2 * k + 0 = 2 + 2 * k by omega, show 2 + 2 * k + 1 = 3 + 2 * k by omega]
theorem refParse_eq {V : List Int} (h2 : 2 ≤ V.length) (he : V.length % 2 = 0) (hl : V.length ≤ 100000) : ∃ e, whileF (σ := List api_Extent × Int) (ρ := api_Message × Int) (fun s15 => if (decide (s15.2 < (V.length : Int))) = true then (idx V s15.2).bind fun x23 => (idx V (IntKind.i64.wrap (s15.2 + 1))).bind fun x24 => (app 16 s15.1 [(⟨x23, x24⟩ : api_Extent)]).bind fun x25 => some (Rd.next (x25, IntKind.i64.wrap (s15.2 + 2))) else some (Rd.done (s15.1, s15.2))) bigK ([], 2) = some (.go (pairsS V, e)) := by
  have := while_go (ρ := api_Message × Int) (body := fun (s15 : List api_Extent × Int) => if (decide (s15.2 < (V.length : Int))) = true then (idx V s15.2).bind fun x23 => (idx V (IntKind.i64.wrap (s15.2 + 1))).bind fun x24 => (app 16 s15.1 [(⟨x23, x24⟩ : api_Extent)]).bind fun x25 => some (Rd.next (x25, IntKind.i64.wrap (s15.2 + 2))) else some (Rd.done (s15.1, s15.2)))
    (fun k => ((List.range k).map fun (k : Nat) => (⟨V.getD (2 + 2 * k) 0, V.getD (3 + 2 * k) 0⟩ : api_Extent), ((2 + 2 * k : Nat) : Int))) ((V.length - 2) / 2) (K := bigK) (by simp [bigK]; omega) (fun k hk => by
      simp only
      have h1 : 2 + 2 * k < V.length := by omega
      have h3 : 3 + 2 * k < V.length := by omega
      rw [if_pos (by simp only [decide_eq_true_eq]; omega), idx_get h1, show ((2 + 2 * k : Nat) : Int) + 1 = ((3 + 2 * k : Nat) : Int) by omega, w64 (by omega) (by omega), idx_get h3]
      simp only [Option.bind_some]
      rw [app_ok (by simp [lim]; omega) (by simp [lim]; omega), show ((2 + 2 * k : Nat) : Int) + 2 = ((2 + 2 * (k + 1) : Nat) : Int) by omega, w64 (by omega) (by omega)]
      simp only [Option.bind_some, List.range_succ, List.map_append, List.map_cons, List.map_nil, List.getD_eq_getElem?_getD, List.getElem?_eq_getElem h1, List.getElem?_eq_getElem h3, Option.getD_some])
      (s' := (pairsS V, ((2 + 2 * ((V.length - 2) / 2) : Nat) : Int))) (by
      simp only
      rw [if_neg (by simp only [decide_eq_true_eq]; omega)]
      rfl)
  exact ⟨_, by simpa using this⟩
theorem put_eq (d : Int) : f_compare_put d = some (bytesS d) := by
  unfold f_compare_put
  have := countF_inv (ρ := List Int) (b := fun i8 (s1 : List Int) => (shrI .u64 d (IntKind.i64.wrap (8 * i8))).bind fun x12 => (app 1 s1 [IntKind.u8.wrap x12]).bind fun x13 => some (Rd.next x13)) (fun k => (List.range k).map (byteS d)) (n := 8) (fun k hk => by
    rw [shr8 d hk]
    simp only [Option.bind_some]
    rw [app_ok (by simp [lim]; omega) (by simp [lim]; omega)]
    simp [List.range_succ, byteS])
  simp only [List.range_zero, List.map_nil] at this
  rw [show ((8 : Int) - 0).toNat = 8 from rfl, this]
  simp [capN, Fl.then, bytesS]
theorem idx_getD {α : Type} {l : List α} {i : Int} (h0 : 0 ≤ i) (h : i.toNat < l.length) (d : α) : idx l i = some (l.getD i.toNat d) := by simp [idx, h0, List.getD_eq_getElem?_getD, h]
def m0 : api_Message := ⟨0, 0, 0, 0, 0, 0, [], []⟩
def ansS (t : api_Tree) (m : api_Message) : api_Message × Int :=
  if checkS t ≠ 0 then (m0, checkS t) else if m.Kind ≠ 13 then (m0, 1) else if m.Values.length < 2 ∨ m.Values.length % 2 = 1 then (m0, 3) else
  if m.Values.getD 0 0 ≠ t.Size ∨ m.Values.getD 1 0 ≠ t.Leaf then (m0, 22) else if m.Number < 0 ∨ (t.Levels.length : Int) ≤ m.Number then (m0, 2) else
  if checkE (pairsS m.Values) ((t.Levels.getD m.Number.toNat []).length : Int) ≠ 0 then (m0, 3) else
  (⟨14, m.To, m.From, m.Number, 0, 0, m.Values, (nodesS (pairsS m.Values)).flatMap fun n => bytesS ((t.Levels.getD m.Number.toNat []).getD n.toNat 0)⟩, 0)
theorem nodes_in {l : List api_Extent} (h : Inside l) {size : Nat} (hs : ∀ e ∈ l, e.Start + e.Count ≤ size) : ∀ n ∈ nodesS l, 0 ≤ n ∧ n.toNat < size := fun n hn => by
  obtain ⟨e, he, hn⟩ := List.mem_flatMap.1 hn
  obtain ⟨k, hk, rfl⟩ := List.mem_map.1 hn
  have hk := List.mem_range.1 hk
  have h1 := h e he
  have h2 := hs e he
  omega
theorem bytes_len (a : Int) : (bytesS a).length = 8 := by simp [bytesS]
theorem flat8 {α : Type} (f : α → List Int) (h : ∀ x, (f x).length = 8) : ∀ l : List α, (l.flatMap f).length = 8 * l.length
  | [] => rfl
  | x :: l => by rw [List.flatMap_cons, List.length_append, h, flat8 f h l, List.length_cons]; omega
theorem answer_eq {t : api_Tree} {m : api_Message} (hL : t.Levels.length ≤ 1000000) (hV : m.Values.length ≤ 1000) (hi : ∀ x ∈ m.Values, I64 x) : f_compare_Answer t m = some (ansS t m) := by
  unfold f_compare_Answer ansS
  rw [hcheck_eq hL]
  simp only [Option.bind_some]
  by_cases h1 : checkS t = 0
  · rw [if_neg (show ¬ ((!decide (checkS t = 0)) = true) by simp [h1]), if_neg (show ¬ (checkS t ≠ 0) by simp [h1])]
    by_cases h2 : m.Kind = 13
    · rw [if_neg (show ¬ ((!decide (m.Kind = 13)) = true) by simp [h2]), if_neg (show ¬ (m.Kind ≠ 13) by simp [h2])]
      by_cases h3 : m.Values.length < 2 ∨ m.Values.length % 2 = 1
      · rw [if_pos h3]
        have : ((if (decide ((m.Values.length : Int) < 2)) = true then some true else some (decide ((Int.tmod (m.Values.length : Int) 2) = 1))) : Option Bool) = some true := by
          by_cases h4 : m.Values.length < 2
          · rw [if_pos (by simp only [decide_eq_true_eq]; omega)]
          · rw [if_neg (by simp only [decide_eq_true_eq]; omega), Int.tmod_eq_emod_of_nonneg (by omega)]
            congr 1; simp only [decide_eq_true_eq]; omega
        rw [this]; rfl
      · rw [if_neg h3]
        have : ((if (decide ((m.Values.length : Int) < 2)) = true then some true else some (decide ((Int.tmod (m.Values.length : Int) 2) = 1))) : Option Bool) = some false := by
          rw [if_neg (by simp only [decide_eq_true_eq]; omega), Int.tmod_eq_emod_of_nonneg (by omega)]
          congr 1; simp only [decide_eq_false_iff_not]; omega
        rw [this]
        simp only [Option.bind_some, Bool.false_eq_true, if_false]
        have hv0 : idx m.Values 0 = some (m.Values.getD 0 0) := by
          rw [show (0 : Int) = ((0 : Nat) : Int) from rfl, idx_get (by omega : 0 < m.Values.length)]; simp [List.getD_eq_getElem?_getD, show 0 < m.Values.length by omega]
        have hv1 : idx m.Values 1 = some (m.Values.getD 1 0) := by
          rw [show (1 : Int) = ((1 : Nat) : Int) from rfl, idx_get (by omega : 1 < m.Values.length)]; simp [List.getD_eq_getElem?_getD, show 1 < m.Values.length by omega]
        rw [hv0, hv1]
        simp only [Option.bind_some]
        clear hv0 hv1
        generalize m.Values.getD 0 0 = V0
        generalize m.Values.getD 1 0 = V1
        by_cases h5 : V0 ≠ t.Size ∨ V1 ≠ t.Leaf
        · rw [if_pos h5]
          have : ((if (!decide (V0 = t.Size)) = true then some true else some (!decide (V1 = t.Leaf))) : Option Bool) = some true := by
            by_cases h6 : V0 = t.Size
            · rw [if_neg (by simp [h6])]; simp [h6] at h5; simp [h5]
            · rw [if_pos (by simp [h6])]
          rw [this]; rfl
        · rw [if_neg h5]
          have h5' : V0 = t.Size ∧ V1 = t.Leaf := by
            constructor
            · exact Classical.not_not.1 fun h => h5 (.inl h)
            · exact Classical.not_not.1 fun h => h5 (.inr h)
          have : ((if (!decide (V0 = t.Size)) = true then some true else some (!decide (V1 = t.Leaf))) : Option Bool) = some false := by
            rw [if_neg (by simp [h5'.1])]; simp [h5'.2]
          rw [this]
          simp only [Option.bind_some, Bool.false_eq_true, if_false]
          by_cases h7 : m.Number < 0 ∨ (t.Levels.length : Int) ≤ m.Number
          · rw [if_pos h7]
            have : ((if (decide (m.Number < 0)) = true then some true else some (decide ((t.Levels.length : Int) ≤ m.Number))) : Option Bool) = some true := by
              by_cases h6 : m.Number < 0
              · rw [if_pos (by simp [h6])]
              · rw [if_neg (by simp [h6])]; congr 1; simp only [decide_eq_true_eq]; omega
            rw [this]; rfl
          · rw [if_neg h7]
            have : ((if (decide (m.Number < 0)) = true then some true else some (decide ((t.Levels.length : Int) ≤ m.Number))) : Option Bool) = some false := by
              rw [if_neg (by simp only [decide_eq_true_eq]; omega)]; congr 1; simp only [decide_eq_false_iff_not]; omega
            rw [this]
            simp only [Option.bind_some, Bool.false_eq_true, if_false]
            have hs := slc_ok (l := m.Values) (lo := 2) (hi := m.Values.length) (by omega) (Nat.le_refl _)
            rw [List.take_of_length_le (by simp)] at hs
            have hs : slc m.Values 2 (m.Values.length : Int) = some (m.Values.drop 2) := hs
            rw [hs]
            simp only [Option.bind_some]
            rw [chunkInt_eq (by simp; omega)]
            simp only [Option.bind_some]
            rw [parse_eq (by omega) (by omega) (by omega)]
            simp only [Option.bind_some]
            have hnum : idx t.Levels m.Number = some (t.Levels.getD m.Number.toNat []) := idx_getD (by omega) (by omega) _
            generalize t.Levels.getD m.Number.toNat [] = level at *
            rw [hnum]
            simp only [Option.bind_some]
            have hei := pairs_EI hi
            rw [echeck_eq hei]
            simp only [Option.bind_some]
            by_cases h8 : checkE (pairsS m.Values) (level.length : Int) = 0
            · rw [if_neg (show ¬ ((!decide (checkE (pairsS m.Values) (level.length : Int) = 0)) = true) by simp [h8]), if_neg (show ¬ (checkE (pairsS m.Values) (level.length : Int) ≠ 0) by simp [h8])]
              obtain ⟨hin, hsz⟩ := inside_of_check h8
              rw [show f_slices_Clone_int_int m.Values = some m.Values by unfold f_slices_Clone_int_int; rw [app_ok (by simp [lim]; omega) (by simp [lim]; omega)]; rfl]
              simp only [Option.bind_some]
              rw [numbers_eq hin]
              simp only [Option.bind_some]
              have hnl := nodes_len hin
              rw [pairs_len] at hnl
              have hni := nodes_in hin hsz
              have := eachN_inv (b := fun (x39 : Int) (s37 : api_Message × List Int) => (idx level x39).bind fun x44 => (f_compare_put x44).bind fun x45 => (app 1 s37.2 x45).bind fun x46 => some (Rd.next ((⟨s37.1.Kind, s37.1.From, s37.1.To, s37.1.Number, s37.1.Value, s37.1.Epoch, s37.1.Values, []⟩ : api_Message), x46)))
                (fun pre => ((⟨14, m.To, m.From, m.Number, 0, 0, m.Values, []⟩ : api_Message), pre.flatMap fun n => bytesS (level.getD n.toNat 0))) (l := nodesS (pairsS m.Values)) (fun pre x suf hp => by
                  have hx := hni x (by rw [hp]; simp)
                  have hpl : pre.length ≤ 1000 * 4096 := by
                    have : pre.length ≤ (nodesS (pairsS m.Values)).length := by rw [hp]; simp
                    omega
                  have hfl := flat8 (fun (n : Int) => bytesS (level.getD n.toNat 0)) (fun n => bytes_len _) pre
                  rw [idx_getD hx.1 hx.2 0]
                  simp only [Option.bind_some, put_eq]
                  rw [app_ok (by rw [bytes_len, hfl]; simp [lim]; omega) (by rw [bytes_len, hfl]; simp [lim]; omega)]
                  simp [List.flatMap_append])
              simp only [List.flatMap_nil] at this
              rw [this]
              rfl
            · rw [if_pos (show ((!decide (checkE (pairsS m.Values) (level.length : Int) = 0)) = true) by simp [h8]), if_pos (show (checkE (pairsS m.Values) (level.length : Int) ≠ 0) by simp [h8])]; rfl
    · rw [if_pos (show ((!decide (m.Kind = 13)) = true) by simp [h2]), if_pos (show (m.Kind ≠ 13) by simp [h2])]; rfl
  · rw [if_pos (show ((!decide (checkS t = 0)) = true) by simp [h1]), if_pos (show (checkS t ≠ 0) by simp [h1])]; rfl
theorem refAnswer_eq {t : api_Tree} {m : api_Message} (hL : t.Levels.length ≤ 1000000) (hV : m.Values.length ≤ 1000) (hi : ∀ x ∈ m.Values, I64 x) : f_ref44_Answer t m = some (ansS t m) := by
  unfold f_ref44_Answer ansS
  rw [rcheck_eq hL]
  simp only [Option.bind_some]
  by_cases h1 : checkS t = 0
  · rw [if_neg (show ¬ ((!decide (checkS t = 0)) = true) by simp [h1]), if_neg (show ¬ (checkS t ≠ 0) by simp [h1])]
    by_cases h2 : m.Kind = 13
    · rw [if_neg (show ¬ ((!decide (m.Kind = 13)) = true) by simp [h2]), if_neg (show ¬ (m.Kind ≠ 13) by simp [h2])]
      by_cases h3 : m.Values.length < 2 ∨ m.Values.length % 2 = 1
      · rw [if_pos h3]
        have : ((if (decide ((m.Values.length : Int) < 2)) = true then some true else some (decide ((Int.tmod (m.Values.length : Int) 2) = 1))) : Option Bool) = some true := by
          by_cases h4 : m.Values.length < 2
          · rw [if_pos (by simp only [decide_eq_true_eq]; omega)]
          · rw [if_neg (by simp only [decide_eq_true_eq]; omega), Int.tmod_eq_emod_of_nonneg (by omega)]
            congr 1; simp only [decide_eq_true_eq]; omega
        rw [this]; rfl
      · rw [if_neg h3]
        have : ((if (decide ((m.Values.length : Int) < 2)) = true then some true else some (decide ((Int.tmod (m.Values.length : Int) 2) = 1))) : Option Bool) = some false := by
          rw [if_neg (by simp only [decide_eq_true_eq]; omega), Int.tmod_eq_emod_of_nonneg (by omega)]
          congr 1; simp only [decide_eq_false_iff_not]; omega
        rw [this]
        simp only [Option.bind_some, Bool.false_eq_true, if_false]
        have hv0 : idx m.Values 0 = some (m.Values.getD 0 0) := by
          rw [show (0 : Int) = ((0 : Nat) : Int) from rfl, idx_get (by omega : 0 < m.Values.length)]; simp [List.getD_eq_getElem?_getD, show 0 < m.Values.length by omega]
        have hv1 : idx m.Values 1 = some (m.Values.getD 1 0) := by
          rw [show (1 : Int) = ((1 : Nat) : Int) from rfl, idx_get (by omega : 1 < m.Values.length)]; simp [List.getD_eq_getElem?_getD, show 1 < m.Values.length by omega]
        rw [hv0, hv1]
        simp only [Option.bind_some]
        clear hv0 hv1
        generalize m.Values.getD 0 0 = V0
        generalize m.Values.getD 1 0 = V1
        by_cases h5 : V0 ≠ t.Size ∨ V1 ≠ t.Leaf
        · rw [if_pos h5]
          have : ((if (!decide (V0 = t.Size)) = true then some true else some (!decide (V1 = t.Leaf))) : Option Bool) = some true := by
            by_cases h6 : V0 = t.Size
            · rw [if_neg (by simp [h6])]; simp [h6] at h5; simp [h5]
            · rw [if_pos (by simp [h6])]
          rw [this]; rfl
        · rw [if_neg h5]
          have h5' : V0 = t.Size ∧ V1 = t.Leaf := by
            constructor
            · exact Classical.not_not.1 fun h => h5 (.inl h)
            · exact Classical.not_not.1 fun h => h5 (.inr h)
          have : ((if (!decide (V0 = t.Size)) = true then some true else some (!decide (V1 = t.Leaf))) : Option Bool) = some false := by
            rw [if_neg (by simp [h5'.1])]; simp [h5'.2]
          rw [this]
          simp only [Option.bind_some, Bool.false_eq_true, if_false]
          by_cases h7 : m.Number < 0 ∨ (t.Levels.length : Int) ≤ m.Number
          · rw [if_pos h7]
            have : ((if (decide (m.Number < 0)) = true then some true else some (decide ((t.Levels.length : Int) ≤ m.Number))) : Option Bool) = some true := by
              by_cases h6 : m.Number < 0
              · rw [if_pos (by simp [h6])]
              · rw [if_neg (by simp [h6])]; congr 1; simp only [decide_eq_true_eq]; omega
            rw [this]; rfl
          · rw [if_neg h7]
            have : ((if (decide (m.Number < 0)) = true then some true else some (decide ((t.Levels.length : Int) ≤ m.Number))) : Option Bool) = some false := by
              rw [if_neg (by simp only [decide_eq_true_eq]; omega)]; congr 1; simp only [decide_eq_false_iff_not]; omega
            rw [this]
            simp only [Option.bind_some, Bool.false_eq_true, if_false]
            obtain ⟨e, he⟩ := refParse_eq (V := m.Values) (by omega) (by omega) (by omega)
            rw [he]
            simp only [Option.bind_some, Fl.then]
            have hnum : idx t.Levels m.Number = some (t.Levels.getD m.Number.toNat []) := idx_getD (by omega) (by omega) _
            generalize t.Levels.getD m.Number.toNat [] = level at *
            rw [hnum]
            simp only [Option.bind_some]
            have hei := pairs_EI hi
            rw [refEcheck_eq hei (by rw [pairs_len]; simp [lim]; omega)]
            simp only [Option.bind_some]
            by_cases h8 : checkE (pairsS m.Values) (level.length : Int) = 0
            · rw [if_neg (show ¬ ((!decide (checkE (pairsS m.Values) (level.length : Int) = 0)) = true) by simp [h8]), if_neg (show ¬ (checkE (pairsS m.Values) (level.length : Int) ≠ 0) by simp [h8])]
              obtain ⟨hin, hsz⟩ := inside_of_check h8
              rw [show app 8 [] m.Values = some m.Values by rw [app_ok (by simp [lim]; omega) (by simp [lim]; omega)]; rfl]
              simp only [Option.bind_some]
              rw [refNodes_eq hin (by rw [pairs_len]; omega)]
              simp only [Option.bind_some]
              have hnl := nodes_len hin
              rw [pairs_len] at hnl
              have hni := nodes_in hin hsz
              generalize hnd : nodesS (pairsS m.Values) = nodes at *
              let mm : api_Message := ⟨14, m.To, m.From, m.Number, 0, 0, [], []⟩
              let bod : Nat → List Int := fun k => (nodes.take k).flatMap fun n => bytesS (level.getD n.toNat 0)
              have inner : ∀ (d : Int) (p : List Int), p.length ≤ 100000000 → whileF (σ := Int × api_Message × List Int × List Int) (ρ := Rd (Int × api_Message × List Int × List Int) (api_Message × Int)) (fun s45 => if (decide (s45.1 < 8)) = true then (shrI .u64 d (IntKind.i64.wrap (8 * s45.1))).bind fun x53 => (app 1 s45.2.2.2 [IntKind.u8.wrap x53]).bind fun x54 => some (Rd.next (IntKind.i64.wrap (s45.1 + 1), (⟨s45.2.1.Kind, s45.2.1.From, s45.2.1.To, s45.2.1.Number, s45.2.1.Value, s45.2.1.Epoch, [], []⟩ : api_Message), s45.2.2.1, x54)) else some (Rd.done (s45.1, (⟨s45.2.1.Kind, s45.2.1.From, s45.2.1.To, s45.2.1.Number, s45.2.1.Value, s45.2.1.Epoch, [], []⟩ : api_Message), s45.2.2.1, s45.2.2.2))) bigK (0, mm, m.Values, p) = some (.go (8, mm, m.Values, p ++ bytesS d)) := fun d p hp => by
                have := while_go (ρ := Rd (Int × api_Message × List Int × List Int) (api_Message × Int)) (body := fun (s45 : Int × api_Message × List Int × List Int) => if (decide (s45.1 < 8)) = true then (shrI .u64 d (IntKind.i64.wrap (8 * s45.1))).bind fun x53 => (app 1 s45.2.2.2 [IntKind.u8.wrap x53]).bind fun x54 => some (Rd.next (IntKind.i64.wrap (s45.1 + 1), (⟨s45.2.1.Kind, s45.2.1.From, s45.2.1.To, s45.2.1.Number, s45.2.1.Value, s45.2.1.Epoch, [], []⟩ : api_Message), s45.2.2.1, x54)) else some (Rd.done (s45.1, (⟨s45.2.1.Kind, s45.2.1.From, s45.2.1.To, s45.2.1.Number, s45.2.1.Value, s45.2.1.Epoch, [], []⟩ : api_Message), s45.2.2.1, s45.2.2.2)))
                  (fun k => ((k : Int), mm, m.Values, p ++ (List.range k).map (byteS d))) 8 (K := bigK) (by decide) (fun k hk => by
                    simp only
                    rw [if_pos (by simp only [decide_eq_true_eq]; omega), shr8 d hk]
                    simp only [Option.bind_some]
                    rw [app_ok (by simp [lim]; omega) (by simp [lim]; omega), w64 (by omega) (by omega)]
                    simp [List.range_succ, byteS, mm]) (s' := (8, mm, m.Values, p ++ bytesS d)) (by simp [bytesS, mm])
                simpa using this
              have hbl : ∀ k, (bod k).length ≤ 8 * (1000 * 4096) := fun k => by
                have := flat8 (fun (n : Int) => bytesS (level.getD n.toNat 0)) (fun n => bytes_len _) (nodes.take k)
                show ((nodes.take k).flatMap _).length ≤ _
                rw [this]; simp; omega
              have := while_go (ρ := api_Message × Int) (body := fun (s34 : Int × api_Message × List Int × List Int) => if (decide (s34.1 < (nodes.length : Int))) = true then (some level).bind fun x42 => (idx nodes s34.1).bind fun x43 => (idx x42 x43).bind fun x44 => (whileF (σ := Int × api_Message × List Int × List Int) (ρ := Rd (Int × api_Message × List Int × List Int) (api_Message × Int)) (fun s45 => if (decide (s45.1 < 8)) = true then (shrI .u64 x44 (IntKind.i64.wrap (8 * s45.1))).bind fun x53 => (app 1 s45.2.2.2 [IntKind.u8.wrap x53]).bind fun x54 => some (Rd.next (IntKind.i64.wrap (s45.1 + 1), (⟨s45.2.1.Kind, s45.2.1.From, s45.2.1.To, s45.2.1.Number, s45.2.1.Value, s45.2.1.Epoch, [], []⟩ : api_Message), s45.2.2.1, x54)) else some (Rd.done (s45.1, (⟨s45.2.1.Kind, s45.2.1.From, s45.2.1.To, s45.2.1.Number, s45.2.1.Value, s45.2.1.Epoch, [], []⟩ : api_Message), s45.2.2.1, s45.2.2.2))) bigK (0, (⟨s34.2.1.Kind, s34.2.1.From, s34.2.1.To, s34.2.1.Number, s34.2.1.Value, s34.2.1.Epoch, [], []⟩ : api_Message), s34.2.2.1, s34.2.2.2)).bind fun o47 => o47.then fun s45 => some (Rd.next (IntKind.i64.wrap (s34.1 + 1), (⟨s45.2.1.Kind, s45.2.1.From, s45.2.1.To, s45.2.1.Number, s45.2.1.Value, s45.2.1.Epoch, [], []⟩ : api_Message), s45.2.2.1, s45.2.2.2)) else some (Rd.done (s34.1, (⟨s34.2.1.Kind, s34.2.1.From, s34.2.1.To, s34.2.1.Number, s34.2.1.Value, s34.2.1.Epoch, [], []⟩ : api_Message), s34.2.2.1, s34.2.2.2)))
                (fun k => ((k : Int), mm, m.Values, bod k)) nodes.length (K := bigK) (by simp [bigK]; omega) (fun k hk => by
                  have hx := hni nodes[k] (List.getElem_mem _)
                  simp only
                  rw [if_pos (by simp only [decide_eq_true_eq]; omega), idx_get hk]
                  simp only [Option.bind_some]
                  rw [show nodes[k] = ((nodes[k].toNat : Nat) : Int) by omega, idx_get hx.2]
                  simp only [Option.bind_some]
                  have hin := inner level[nodes[k].toNat] (bod k) (by have := hbl k; omega)
                  simp only [mm] at hin
                  simp only [Int.toNat_natCast, mm]
                  rw [hin]
                  simp only [Option.bind_some, Fl.then]
                  rw [w64 (by omega) (by omega)]
                  have : bod (k + 1) = bod k ++ bytesS level[nodes[k].toNat] := by
                    simp only [bod, List.take_add_one, List.flatMap_append, List.getElem?_eq_getElem hk, Option.toList_some, List.flatMap_cons, List.flatMap_nil, List.append_nil, List.getD_eq_getElem?_getD, List.getElem?_eq_getElem hx.2, Option.getD_some]
                  rw [this]; rfl) (s' := ((nodes.length : Int), mm, m.Values, bod nodes.length)) (by simp [mm])
              have h0 : bod 0 = [] := by simp [bod]
              rw [h0] at this
              simp only [Option.bind_some] at this
              rw [show ((0 : Nat) : Int) = 0 from rfl] at this
              simp only [mm] at this
              refine (congrArg (fun q => Option.bind q _) this).trans ?_
              simp [bod, Fl.then]
            · rw [if_pos (show ((!decide (checkE (pairsS m.Values) (level.length : Int) = 0)) = true) by simp [h8]), if_pos (show (checkE (pairsS m.Values) (level.length : Int) ≠ 0) by simp [h8])]; rfl
    · rw [if_pos (show ((!decide (m.Kind = 13)) = true) by simp [h2]), if_pos (show (m.Kind ≠ 13) by simp [h2])]; rfl
  · rw [if_pos (show ((!decide (checkS t = 0)) = true) by simp [h1]), if_pos (show (checkS t ≠ 0) by simp [h1])]; rfl
end Go.Proofs.Ytogflgcngfghpaa
end
section
set_option maxHeartbeats 4000000
set_option linter.unusedVariables false
set_option linter.unusedSimpArgs false
namespace Go.Proofs.Ytogflgcngfghpaa
open Go.J
def f_slices_AppendSeq_api_Extent_api_Extent (a0 : List api_Extent) (a1 : List api_Extent) : Option (List api_Extent) :=
 (eachN (σ := List api_Extent) (fun x4 s2 => (app 16 s2 [x4]).bind fun x10 => some (Rd.next x10)) a1 a0).bind fun so5 => some so5
theorem c_slices_AppendSeq_api_Extent_api_Extent {a0 : List api_Extent} {a1 : List api_Extent} {s0 : Value} {r : List api_Extent} (h : f_slices_AppendSeq_api_Extent_api_Extent a0 a1 = some r) : Ct Try.prog 90 [Rep.slv.at s0, (Rep.iter Try.prog r_api_Extent).at a1] [Ent.row s0 62 2 r_api_Extent a0] (fun s : Value => Rep.slv.at s) (fun s => [Ent.row s 62 2 r_api_Extent r]) := by
 refine Ct.mkM Try.func90 rfl Try.ntmps90 (by simp) fun I R => ?_
 unfold f_slices_AppendSeq_api_Extent_api_Extent at h
 refine J_seq ?_
 refine J_region ?_
 refine JLa (T_boxm (ρ := Rep.slv) (.mk rfl) Lay.slv) rfl .none fun b1 => ?_
 refine JLp (T_assign rfl) rfl (nofun) .none ?_
 refine JL_nil ?_
 refine KJ_nrm_then (KJ_J ?_)
 refine J_seq ?_
 refine J_seq ?_
 refine J_region ?_
 refine JLp (T_move rfl) rfl (nofun) .none ?_
 refine JL_nil ?_
 refine KJ_nrm_then (KJ_J ?_)
 replace h := bnd h; obtain ⟨so5, ho6, h⟩ := h
 refine J_rforN ho6 [(2, Rep.ptr.at (b1, 0)), (6, (Rep.iter Try.prog r_api_Extent).at a1)] (fun x4 (b9 : Nat) => [(2, Rep.ptr.at (b1, 0)), (6, (Rep.iter Try.prog r_api_Extent).at a1), (5, Rep.ptr.at (b9, 0))]) (fun x4 b9 => [Ent.box b9 r_api_Extent x4]) (fun (s2 : List api_Extent) (g3 : Value) => [Ent.box b1 Rep.slv g3, Ent.row g3 62 2 r_api_Extent s2]) s0 rfl (.mk rfl) (.cons rfl (.cons rfl (.nil _))) rfl rfl ?_ ?_ ?_
 ·intro l I1 R1 x4 s2 g3
  refine J_region ?_
  refine JLa (T_alloc z62 lay_api_Extent) rfl .none fun b9 => ?_
  refine JLn1 (T_store ty62 rfl (.mk rfl) (SetF.self lay_api_Extent)) .none ?_
  refine JL_nil ?_
  exact KJ_rfa b9 (.cons rfl (.cons rfl (.cons rfl (.nil _)))) rfl
 ·intro l I1 R1 x4 b9 s2 g3 st8 hb7
  refine J_block ?_
  refine J_region ?_
  refine JLp (T_loadw tv39 rfl) rfl B1 .none ?_
  refine JLp (T_loadw ty62 rfl) rfl B0 .none ?_
  refine JLe0 (T_bslice (ρ := r_api_Extent) sl39 lay_api_Extent (.cons (.mk rfl) .nil) rfl (by decide)) rfl .none ?_
  replace hb7 := bnd hb7; obtain ⟨x10, hx10, hb7⟩ := hb7
  refine JL.perm F2 ?_
  refine JLe1 (T_append sl39 ⟨_, lay_api_Extent⟩ (.mk rfl) (.mk rfl) hx10) rfl .none fun g11 => ?_
  refine JL.perm F2 ?_
  refine JLn1 (T_store tv39 rfl (.mk rfl) (SetF.self Lay.slv)) .none ?_
  refine JL_nil ?_
  refine KJ_nrm_blk ?_
  refine KJ.perm F2 ?_
  refine KJ.drop1 ?_
  exact KJ_rq x10 g11 (inj hb7) rfl
 ·intro r12 g3
  refine KJ_nrm_then (KJ_J ?_)
  refine J_seq ?_
  refine J_region ?_
  refine JLp (T_loadw tv39 rfl) rfl B1 .none ?_
  refine JLp (T_assign rfl) rfl (nofun) .none ?_
  refine JL_nil ?_
  refine KJ_nrm_then (KJ_J ?_)
  refine J_ret ?_
  obtain rfl := inj h
  exact KJ_retM1 (M := [Ent.mark r12]) (J := [Ent.box b1 Rep.slv g3]) g3 (marks.cons marks.nil) rfl Try.results90 (.tmp (.mk rfl) Rv.nil) rfl
end Go.Proofs.Ytogflgcngfghpaa
end
section
set_option maxHeartbeats 4000000
set_option linter.unusedVariables false
set_option linter.unusedSimpArgs false
namespace Go.Proofs.Ytogflgcngfghpaa
open Go.J
def f_slices_Collect_api_Extent (a0 : List api_Extent) : Option (List api_Extent) :=
 (f_slices_AppendSeq_api_Extent_api_Extent ([] : List api_Extent) a0).bind fun x1 => some x1
theorem c_slices_Collect_api_Extent {a0 : List api_Extent} {r : List api_Extent} (h : f_slices_Collect_api_Extent a0 = some r) : Ct Try.prog 79 [(Rep.iter Try.prog r_api_Extent).at a0] [] (fun _ : Unit => (Rep.sl r_api_Extent 2).at r) (fun _ => []) := by
 refine Ct.mk Try.func79 rfl Try.ntmps79 (by simp) fun I R => ?_
 refine J.drop0 ?_
 unfold f_slices_Collect_api_Extent at h
 refine J_seq ?_
 refine J_region ?_
 refine JLp (T_assign rfl) rfl (nofun) .none ?_
 refine JL_nil ?_
 refine KJ_nrm_then (KJ_J ?_)
 refine J_seq ?_
 refine J_region ?_
 refine JLp (T_move rfl) rfl (nofun) .none ?_
 replace h := bnd h; obtain ⟨x1, hx1, h⟩ := h
 refine JL_rownil 62 2 r_api_Extent ?_
 refine JLe1 (T_call ⟨_, Try.func90, rfl, rfl⟩ (c_slices_AppendSeq_api_Extent_api_Extent hx1) ⟨.mk rfl, ⟨(.mk rfl), trivial⟩⟩) rfl .none fun g2 => ?_
 refine JLp (T_assign rfl) rfl (nofun) .none ?_
 refine JL_nil ?_
 refine KJ_nrm_then (KJ_J ?_)
 refine J_ret ?_
 refine KJ_freeze (t := 2) rfl ?_
 obtain rfl := inj h
 exact KJ_ret1' Try.results79 (.tmp (.mk rfl) Rv.nil) rfl rfl
end Go.Proofs.Ytogflgcngfghpaa
end
section
set_option maxHeartbeats 4000000
set_option linter.unusedVariables false
set_option linter.unusedSimpArgs false
namespace Go.Proofs.Ytogflgcngfghpaa
open Go.J
def f_extent_within (a0 : api_Extent) : Option (Int × Int × Bool) :=
 if (decide (a0.Count ≤ 0)) = true then some (0, 0, false) else (if (decide (a0.Start < 0)) = true then some true else some (decide (a0.Count < (IntKind.i64.wrap (4096 - a0.Start))))).bind fun c2 => ((if c2 = true then some (Fl.go (min (IntKind.i64.wrap (a0.Start + a0.Count)) 4096)) else some (Fl.go 4096) : Option (Fl (Int) (Int × Int × Bool)))).bind fun o5 => o5.then fun s7 => some (max a0.Start 0, s7, decide ((max a0.Start 0) < s7))
theorem c_extent_within {a0 : api_Extent} {r : Int × Int × Bool} (h : f_extent_within a0 = some r) : Ct Try.prog 95 [r_api_Extent.at a0] [] (fun _ : Unit => Pr.tup [(Rep.int .i64).at r.1, (Rep.int .i64).at r.2.1, Rep.bool.at r.2.2]) (fun _ => []) := by
 refine Ct.mk Try.func95 rfl Try.ntmps95 (by simp) fun I R => ?_
 refine J.drop0 ?_
 unfold f_extent_within at h
 refine J_seq ?_
 refine J_region ?_
 refine JLe0 (T_box (ρ := r_api_Extent) (.mk rfl)) rfl .none ?_
 refine JLp (T_assign rfl) rfl (nofun) .none ?_
 refine JLp (T_assign rfl) rfl (nofun) .none ?_
 refine JLp (T_assign rfl) rfl (nofun) .none ?_
 refine JL_nil ?_
 refine KJ_nrm_then (KJ_J ?_)
 refine J_seq ?_
 refine J_seq ?_
 refine J_region ?_
 refine JLp (T_faddri fo62_1 rfl hf_api_Extent_Count) rfl (nofun) .none ?_
 refine JLp (T_load ty3 rfl) rfl (nofun) .none ?_
 refine JLp (T_leq rfl rfl) rfl (nofun) .none ?_
 refine JL_nil ?_
 refine KJ_nrm_then (KJ_J ?_)
 refine J_test rfl (fun hq1 => ?_) (fun hq1 => ?_)
 ·replace h := ift hq1 h
  refine J_seq ?_
  refine J_region ?_
  refine JLp (T_assign rfl) rfl (nofun) .none ?_
  refine JLp (T_assign rfl) rfl (nofun) .none ?_
  refine JLp (T_assign rfl) rfl (nofun) .none ?_
  refine JL_nil ?_
  refine KJ_nrm_then (KJ_J ?_)
  refine J_ret ?_
  refine KJ_ret_then ?_
  obtain rfl := inj h
  exact KJ_retn' Try.results95 (.tmp (.mk rfl) (.tmp (.mk rfl) (.tmp (.mk rfl) Rv.nil))) rfl (by simp) rfl
 ·replace h := iff_ hq1 h
  refine J_skip ?_
  refine KJ_nrm_then (KJ_J ?_)
  refine J_seq ?_
  refine J_region ?_
  refine JLp (T_faddri fo62_0 rfl hf_api_Extent_Start) rfl (nofun) .none ?_
  refine JLp (T_load ty3 rfl) rfl (nofun) .none ?_
  refine JLp (T_max rfl rfl) rfl (nofun) .none ?_
  refine JLp (T_assign rfl) rfl (nofun) .none ?_
  refine JLp (T_assign rfl) rfl (nofun) .none ?_
  refine JL_nil ?_
  refine KJ_nrm_then (KJ_J ?_)
  refine J_seq ?_
  refine J_seq ?_
  refine J_region ?_
  refine JLp (T_faddri fo62_0 rfl hf_api_Extent_Start) rfl (nofun) .none ?_
  refine JLp (T_load ty3 rfl) rfl (nofun) .none ?_
  refine JLp (T_lss rfl rfl) rfl (nofun) .none ?_
  refine JLp (T_move rfl) rfl (nofun) .none ?_
  replace h := bnd h; obtain ⟨c2, hc2, h⟩ := h
  refine JL_at 7 [(1, (Rep.iptr r_api_Extent).at a0), (5, (Rep.int .i64).at (max a0.Start 0)), (6, (Rep.int .i64).at 4096), (23, Rep.bool.at c2)] (R) ?_ ?_
  ·rcases Bool.eq_false_or_eq_true (decide (a0.Start < 0)) with hq3 | hq3
   ·replace hc2 := ift hq3 hc2
    obtain rfl := inj hc2
    refine JLs rfl rfl hq3 rfl ?_
    refine JLs rfl rfl hq3 rfl ?_
    refine JLs rfl rfl hq3 rfl ?_
    refine JLs rfl rfl hq3 rfl ?_
    refine JLs rfl rfl hq3 rfl ?_
    refine JLs rfl rfl hq3 rfl ?_
    refine JLp (T_pickT rfl hq3 rfl) rfl (nofun) .none ?_
    refine JL_nil ?_
    exact KJ.sub KJ_end (.cons rfl (.cons rfl (.cons rfl (.cons rfl (.nil _)))))
   ·replace hc2 := iff_ hq3 hc2
    refine JLp (T_faddri fo62_1 rfl hf_api_Extent_Count) rfl (nofun) (.y rfl rfl hq3) ?_
    refine JLp (T_load ty3 rfl) rfl (nofun) (.y rfl rfl hq3) ?_
    refine JLp (T_faddri fo62_0 rfl hf_api_Extent_Start) rfl (nofun) (.y rfl rfl hq3) ?_
    refine JLp (T_load ty3 rfl) rfl (nofun) (.y rfl rfl hq3) ?_
    refine JLp (T_sub rfl rfl) rfl (nofun) (.y rfl rfl hq3) ?_
    refine JLp (T_lss rfl rfl) rfl (nofun) (.y rfl rfl hq3) ?_
    obtain rfl := inj hc2
    refine JLp (T_pickF rfl hq3 rfl) rfl (nofun) .none ?_
    refine JL_nil ?_
    exact KJ.sub KJ_end (.cons rfl (.cons rfl (.cons rfl (.cons rfl (.nil _)))))
  refine JL_nil ?_
  refine KJ_nrm_then (KJ_J ?_)
  replace h := bnd h; obtain ⟨o5, ho6, h⟩ := h
  refine J_cuto o5 (fun (s7 : Int) (g8 : Unit) => [(5, (Rep.int .i64).at (max a0.Start 0)), (6, (Rep.int .i64).at s7)]) (fun s7 g8 => R) ?_ ?_
  ·refine J_test rfl (fun hq4 => ?_) (fun hq4 => ?_)
   ·replace ho6 := ift hq4 ho6
    refine J_region ?_
    refine JLp (T_faddri fo62_0 rfl hf_api_Extent_Start) rfl (nofun) .none ?_
    refine JLp (T_load ty3 rfl) rfl (nofun) .none ?_
    refine JLp (T_faddri fo62_1 rfl hf_api_Extent_Count) rfl (nofun) .none ?_
    refine JLp (T_load ty3 rfl) rfl (nofun) .none ?_
    refine JLp (T_add rfl rfl) rfl (nofun) .none ?_
    refine JLp (T_min rfl rfl) rfl (nofun) .none ?_
    refine JLp (T_assign rfl) rfl (nofun) .none ?_
    refine JL_nil ?_
    refine KJ_nrm_kq ?_
    exact KJ_ot (min (IntKind.i64.wrap (a0.Start + a0.Count)) 4096) () (inj ho6) (.cons rfl (.cons rfl (.nil _))) rfl
   ·replace ho6 := iff_ hq4 ho6
    refine J_skip ?_
    refine KJ_nrm_kq ?_
    exact KJ_ot 4096 () (inj ho6) (.cons rfl (.cons rfl (.nil _))) rfl
  ·intro s7 g8 hs
   subst hs
   replace h := thn h
   refine KJ_nrm_then (KJ_J ?_)
   refine J_seq ?_
   refine J_region ?_
   refine JLp (T_move rfl) rfl (nofun) .none ?_
   refine JLp (T_move rfl) rfl (nofun) .none ?_
   refine JLp (T_move rfl) rfl (nofun) .none ?_
   refine JLp (T_move rfl) rfl (nofun) .none ?_
   refine JLp (T_lss rfl rfl) rfl (nofun) .none ?_
   refine JLp (T_assign rfl) rfl (nofun) .none ?_
   refine JLp (T_assign rfl) rfl (nofun) .none ?_
   refine JLp (T_assign rfl) rfl (nofun) .none ?_
   refine JL_nil ?_
   refine KJ_nrm_then (KJ_J ?_)
   refine J_ret ?_
   obtain rfl := inj h
   exact KJ_retn' Try.results95 (.tmp (.mk rfl) (.tmp (.mk rfl) (.tmp (.mk rfl) Rv.nil))) rfl (by simp) rfl
end Go.Proofs.Ytogflgcngfghpaa
end
section
set_option maxHeartbeats 4000000
set_option linter.unusedVariables false
set_option linter.unusedSimpArgs false
namespace Go.Proofs.Ytogflgcngfghpaa
open Go.J
section
open Go.Proofs Go.Shelf Go.Sort Go.RowKit Go.Lib
instance inh96 : Inhabited extent_end := ⟨(⟨0, 0, 0⟩ : extent_end)⟩
def cf96 (x y : extent_end) : Int := Lib.compareInt x.at_ y.at_
def f_slices_SortFunc_extent_end_extent_end (a0 : List extent_end) : Option (List extent_end) := some (sortE cf96 a0)
def ren96 : Go.Shelf.Ren := ⟨fun | 6 => 96 | 15 => 101 | 14 => 100 | 28 => 111 | 29 => 112 | 20 => 103 | 21 => 104 | 22 => 105 | 23 => 106 | 24 => 107 | 25 => 108 | 26 => 109 | 27 => 110 | 46 => 113 | 47 => 114 | 48 => 115 | 49 => 116 | 50 => 117 | 57 => 118 | n => n, fun | 22 => 147 | 24 => 151 | 25 => 159 | 3 => 3 | 39 => 152 | 0 => 0 | 53 => 171 | 55 => 73 | 4 => 4 | 46 => 164 | 45 => 163 | 50 => 168 | 5 => 5 | 9 => 9 | 66 => 173 | 70 => 177 | 76 => 179 | 77 => 58 | n => n, fun | n => n⟩
theorem lays96 : Go.Proofs.SlLaysF0.n6 Try.prog ren96 := { mixed := by kernel_rfl, f6 := ⟨Try.f96.name, by decide, Try.func96.trans (congrArg some (by kernel_rfl))⟩, f14 := ⟨Try.f100.name, by decide, Try.func100.trans (congrArg some (by kernel_rfl))⟩, f15 := Try.func101.trans (congrArg some (by kernel_rfl)), f20 := ⟨Try.f103.name, by decide, Try.func103.trans (congrArg some (by kernel_rfl))⟩, f21 := ⟨Try.f104.name, by decide, Try.func104.trans (congrArg some (by kernel_rfl))⟩, f22 := ⟨Try.f105.name, by decide, Try.func105.trans (congrArg some (by kernel_rfl))⟩, f23 := ⟨Try.f106.name, by decide, Try.func106.trans (congrArg some (by kernel_rfl))⟩, f24 := ⟨Try.f107.name, by decide, Try.func107.trans (congrArg some (by kernel_rfl))⟩, f25 := ⟨Try.f108.name, by decide, Try.func108.trans (congrArg some (by kernel_rfl))⟩, f26 := ⟨Try.f109.name, by decide, Try.func109.trans (congrArg some (by kernel_rfl))⟩, f27 := ⟨Try.f110.name, by decide, Try.func110.trans (congrArg some (by kernel_rfl))⟩, f28 := Try.func111.trans (congrArg some (by kernel_rfl)), f29 := Try.func112.trans (congrArg some (by kernel_rfl)), f46 := ⟨Try.f113.name, by decide, Try.func113.trans (congrArg some (by kernel_rfl))⟩, f47 := Try.func114.trans (congrArg some (by kernel_rfl)), f48 := Try.func115.trans (congrArg some (by kernel_rfl)), f49 := ⟨Try.f116.name, by decide, Try.func116.trans (congrArg some (by kernel_rfl))⟩, f50 := ⟨Try.f117.name, by decide, Try.func117.trans (congrArg some (by kernel_rfl))⟩, f57 := ⟨Try.f118.name, by decide, Try.func118.trans (congrArg some (by kernel_rfl))⟩, t0 := Try.underlying0, a0 := Try.isAgg0, z0 := Try.sizeOf0, v0 := Try.zeroValue0, t3 := Try.underlying3, a3 := Try.isAgg3, z3 := Try.sizeOf3, v3 := Try.zeroValue3, t4 := Try.underlying4, a4 := Try.isAgg4, z4 := Try.sizeOf4, v4 := Try.zeroValue4, t5 := Try.underlying5, a5 := Try.isAgg5, z5 := Try.sizeOf5, v5 := Try.zeroValue5, t9 := Try.underlying9, a9 := Try.isAgg9, z9 := Try.sizeOf9, v9 := Try.zeroValue9, t22 := Try.underlying147, a22 := Try.isAgg147, z22 := Try.sizeOf147, v22 := Try.zeroValue147, t25 := Try.underlying159, a25 := Try.isAgg159, z25 := Try.sizeOf159, v25 := Try.zeroValue159, t39 := Try.underlying152, a39 := Try.isAgg152, z39 := Try.sizeOf152, v39 := Try.zeroValue152, t45 := Try.underlying163, a45 := Try.isAgg163, z45 := Try.sizeOf163, v45 := Try.zeroValue163, t46 := Try.underlying164, a46 := Try.isAgg164, z46 := Try.sizeOf164, v46 := Try.zeroValue164, t50 := Try.underlying168, a50 := Try.isAgg168, z50 := Try.sizeOf168, v50 := Try.zeroValue168, t53 := Try.underlying171, a53 := Try.isAgg171, z53 := Try.sizeOf171, v53 := Try.zeroValue171, t55 := Try.underlying73, a55 := Try.isAgg73, z55 := Try.sizeOf73, v55 := Try.zeroValue73, t66 := Try.underlying173, a66 := Try.isAgg173, z66 := Try.sizeOf173, v66 := Try.zeroValue173, t70 := Try.underlying177, a70 := Try.isAgg177, z70 := Try.sizeOf177, v70 := Try.zeroValue177, t76 := Try.underlying179, a76 := Try.isAgg179, z76 := Try.sizeOf179, v76 := Try.zeroValue179, t77 := Try.underlying58, a77 := Try.isAgg58, z77 := Try.sizeOf58, v77 := Try.zeroValue58 }
theorem isNaN96 (x : Int) (w : World) : Calls Try.prog 102 #[.int .i64 x] w fun e w' => e = .returned (.bool false) ∧ w' = w := by
 go_enter Try.func102, Try.ntmps102
 go_wp2
 go_ret
 exact ⟨by simp, rfl⟩
theorem cmp96 (x y : Int) (w : World) : Calls Try.prog 98 #[.int .i64 x, .int .i64 y] w fun e w' => e = .returned (.int .i64 (Lib.compareInt x y)) ∧ w' = w := by
 go_enter Try.func98, Try.ntmps98
 go_wp2_with (go_at_call 102; refine (isNaN96 _ _).mono ?_; rintro e w' ⟨rfl, hw⟩; rw [hw])
 all_goals (go_ret; refine ⟨?_, rfl⟩; unfold Lib.compareInt; (repeat' split) <;> first | rfl | (exfalso; omega))
def enc96 (x : extent_end) : List Go.Value := [.int .i64 x.at_, .int .i64 x.list, .int .i64 x.step]
theorem clo96 (x y : extent_end) (W : World) : Calls Try.prog 97 #[.agg (enc96 x).toArray, .agg (enc96 y).toArray] W fun e w' => e = .returned (.int .i64 (cf96 x y)) ∧ ∃ q os', w' = grow (W.drewN q) os' := by
 have hcon := fun W' => cmp96 x.at_ y.at_ W'
 unfold cf96
 generalize Lib.compareInt x.at_ y.at_ = r at hcon ⊢
 unfold enc96
 go_enter Try.func97, Try.ntmps97
 go_wp2_with (go_at_call 98; refine (hcon _).mono ?_; rintro e w' ⟨rfl, rfl⟩)
 go_ret
 exact ⟨rfl, 0, _, by rw [alloc_eq_grow, alloc_eq_grow, grow_grow]; rfl⟩
theorem lt96 (x y : extent_end) : ltOf cf96 x y = decide (x.at_ < y.at_) := by
 unfold ltOf cf96 Lib.compareInt
 by_cases h1 : x.at_ < y.at_
 ·simp [h1]
 ·by_cases h2 : y.at_ < x.at_ <;> simp [h1, h2]
theorem swo96 : SWO (ltOf cf96) where
 irrefl x := by rw [lt96]; simp
 trans x y z h1 h2 := by rw [lt96] at *; simp at *; omega
 ntrans x y z h1 h2 := by rw [lt96] at *; simp at *; omega
theorem c_slices_SortFunc_extent_end_extent_end {s : Go.Value} {a0 r : List extent_end} (h : f_slices_SortFunc_extent_end_extent_end a0 = some r) : Ct Try.prog 96 [Rep.slv.at s, Rep.val.at (.func (.func 97) #[] #[])] [Ent.row s 151 3 r_extent_end a0] (fun _ : Unit => Pr.tup []) (fun _ => [Ent.row s 151 3 r_extent_end r]) := by
 unfold f_slices_SortFunc_extent_end_extent_end at h
 obtain rfl := Option.some.inj h
 exact Ct.sort lays96 (by decide) Try.isAgg151 Try.sizeOf151 enc96 (fun _ => rfl) (fun x v hv => by simp [enc96] at hv; rcases hv with rfl | rfl | rfl <;> rfl) (fun I x => (show c_extent_end.rd _ _ (p_extent_end _) from ⟨.int .i64 x.at_, #[.int .i64 x.list, .int .i64 x.step], rfl, ⟨.int .i64 x.list, #[.int .i64 x.step], rfl, ⟨.int .i64 x.step, #[], rfl, rfl, rfl⟩, rfl⟩, rfl⟩)) (fun I v x h => by rw [form_extent_end h]; rfl) cf96 swo96 (enters_of Try.func97 (by kernel_rfl) rfl) clo96
end
end Go.Proofs.Ytogflgcngfghpaa
end
section
set_option maxHeartbeats 4000000
set_option linter.unusedVariables false
set_option linter.unusedSimpArgs false
namespace Go.Proofs.Ytogflgcngfghpaa
open Go.J
def f_extent_ends (a0 : List (List api_Extent)) : Option (List extent_end) :=
 (rangeF (σ := List extent_end) (ρ := List extent_end) (fun i8 x12 s1 => (rangeF (σ := List extent_end) (ρ := Rd (List extent_end) (List extent_end)) (fun i21 x25 s14 => (f_extent_within x25).bind fun x28 => ((if x28.2.2 = true then (app 24 s14 [(⟨x28.1, i8, 1⟩ : extent_end), (⟨x28.2.1, i8, (-1)⟩ : extent_end)]).bind fun x34 => some (Fl.go x34) else some (Fl.go s14) : Option (Fl (List extent_end) (Rd (List extent_end) (Rd (List extent_end) (List extent_end)))))).bind fun o30 => o30.then fun s32 => some (Rd.next s32)) x12 0 s1).bind fun o16 => o16.then fun s14 => some (Rd.next s14)) a0 0 []).bind fun o3 => o3.then fun s1 => (f_slices_SortFunc_extent_end_extent_end s1).bind fun x36 => some x36
theorem c_extent_ends {a0 : List (List api_Extent)} {r : List extent_end} (h : f_extent_ends a0 = some r) : Ct Try.prog 92 [(Rep.sl (Rep.sl r_api_Extent 2) 1).at a0] [] (fun _ : Unit => (Rep.sl r_extent_end 3).at r) (fun _ => []) := by
 refine Ct.mk Try.func92 rfl Try.ntmps92 (by simp) fun I R => ?_
 refine J.drop0 ?_
 unfold f_extent_ends at h
 refine J_seq ?_
 refine J_region ?_
 refine JLp (T_assign rfl) rfl (nofun) .none ?_
 refine JL_nil ?_
 refine KJ_nrm_then (KJ_J ?_)
 refine J_seq ?_
 refine J_region ?_
 refine JLp (T_assign rfl) rfl (nofun) .none ?_
 refine JL_nil ?_
 refine KJ_nrm_then (KJ_J ?_)
 refine J_seq ?_
 refine J_seq ?_
 refine J_region ?_
 refine JLp (T_move rfl) rfl (nofun) .none ?_
 refine JLp (T_len (ρ := (Rep.sl r_api_Extent 2)) sl155 (.mk rfl)) rfl (nofun) .none ?_
 refine JLp (T_move rfl) rfl (nofun) .none ?_
 refine JL_nil ?_
 refine KJ_nrm_then (KJ_J ?_)
 refine J_rownil 151 3 r_extent_end ?_
 replace h := bnd h; obtain ⟨o3, ho4, h⟩ := h
 refine J_cuto o3 (fun (s1 : List extent_end) (g2 : Value) => [(3, Rep.slv.at g2)]) (fun s1 g2 => Ent.row g2 151 3 r_extent_end s1 :: R) ?_ ?_
 ·refine J_block ?_
  refine J_lim (ρ := (Rep.sl r_api_Extent 2)) (n := 1) (l := a0) (x := .tmp 11) (.mk rfl) fun hl => ?_
  refine J_range ho4 hl (fun i8 (s1 : List extent_end) (g2 : Value) => [(11, (Rep.sl (Rep.sl r_api_Extent 2) 1).at a0), (12, (Rep.int .i64).at (a0.length : Int)), (3, Rep.slv.at g2), (13, (Rep.int .i64).at i8)]) (fun i8 s1 g2 => Ent.row g2 151 3 r_extent_end s1 :: R) (.slice none 0 0) (.cons rfl (.cons rfl (.cons rfl (.cons rfl (.nil _))))) rfl ?_ ?_
  ·intro s1 g2 ho4n
   refine J_seq (J_region (JLp (T_lss rfl rfl) rfl (nofun) .none (JL_nil (KJ_nrm_then (KJ_J ?_)))))
   refine J_seq (J_test rfl (fun hp => absurd (of_decide_eq_true hp) (by omega)) (fun _ => J_exit (KJ_exit_then (KJ_exit_then (KJ_exit_here (KJ_nrm_kq ?_))))))
   exact KJ_ot s1 g2 ho4n (.cons rfl (.nil _)) rfl
  ·intro i8 x12 s1 g2 st7 hi9 hj10 hx13 hw11 hb5 hf6
   refine J_seq (J_region (JLp (T_lss rfl rfl) rfl (nofun) .none (JL_nil (KJ_nrm_then (KJ_J ?_)))))
   refine J_seq (J_test rfl (fun _ => J_skip (KJ_nrm_then (KJ_J ?_))) (fun hp => absurd hj10 (of_decide_eq_false hp)))
   refine J_seq ?_
   refine J_block ?_
   refine J_seq ?_
   refine J_region ?_
   refine JLp (T_move rfl) rfl (nofun) .none ?_
   refine JLp (T_ix sl155 (.mk rfl) rfl hx13) rfl (nofun) .none ?_
   refine JLp (T_load ty39 rfl) rfl (nofun) .none ?_
   refine JLp (T_assign rfl) rfl (nofun) .none ?_
   refine JLp (T_assign rfl) rfl (nofun) .none ?_
   refine JL_nil ?_
   refine KJ_nrm_then (KJ_J ?_)
   refine J_seq ?_
   refine J_region ?_
   refine JLp (T_move rfl) rfl (nofun) .none ?_
   refine JLp (T_len (ρ := r_api_Extent) sl39 (.mk rfl)) rfl (nofun) .none ?_
   refine JLp (T_move rfl) rfl (nofun) .none ?_
   refine JL_nil ?_
   refine KJ_nrm_then (KJ_J ?_)
   replace hb5 := bnd hb5; obtain ⟨o16, ho17, hb5⟩ := hb5
   refine J_cuto o16 (fun (s14 : List extent_end) (g15 : Value) => [(11, (Rep.sl (Rep.sl r_api_Extent 2) 1).at a0), (12, (Rep.int .i64).at (a0.length : Int)), (13, (Rep.int .i64).at i8), (3, Rep.slv.at g15)]) (fun s14 g15 => Ent.row g15 151 3 r_extent_end s14 :: R) ?_ ?_
   ·refine J_block ?_
    refine J_lim (ρ := r_api_Extent) (n := 2) (l := x12) (x := .tmp 18) (.mk rfl) fun hl => ?_
    refine J_range ho17 hl (fun i21 (s14 : List extent_end) (g15 : Value) => [(11, (Rep.sl (Rep.sl r_api_Extent 2) 1).at a0), (12, (Rep.int .i64).at (a0.length : Int)), (13, (Rep.int .i64).at i8), (4, (Rep.int .i64).at i8), (18, (Rep.sl r_api_Extent 2).at x12), (19, (Rep.int .i64).at (x12.length : Int)), (3, Rep.slv.at g15), (20, (Rep.int .i64).at i21)]) (fun i21 s14 g15 => Ent.row g15 151 3 r_extent_end s14 :: R) g2 (.cons rfl (.cons rfl (.cons rfl (.cons rfl (.cons rfl (.cons rfl (.cons rfl (.cons rfl (.nil _))))))))) rfl ?_ ?_
    ·intro s14 g15 ho17n
     refine J_seq (J_region (JLp (T_lss rfl rfl) rfl (nofun) .none (JL_nil (KJ_nrm_then (KJ_J ?_)))))
     refine J_seq (J_test rfl (fun hp => absurd (of_decide_eq_true hp) (by omega)) (fun _ => J_exit (KJ_exit_then (KJ_exit_then (KJ_exit_here (KJ_nrm_kq ?_))))))
     exact KJ_ot s14 g15 ho17n (.cons rfl (.cons rfl (.cons rfl (.cons rfl (.nil _))))) rfl
    ·intro i21 x25 s14 g15 st20 hi22 hj23 hx26 hw24 hb18 hf19
     refine J_seq (J_region (JLp (T_lss rfl rfl) rfl (nofun) .none (JL_nil (KJ_nrm_then (KJ_J ?_)))))
     refine J_seq (J_test rfl (fun _ => J_skip (KJ_nrm_then (KJ_J ?_))) (fun hp => absurd hj23 (of_decide_eq_false hp)))
     refine J_seq ?_
     refine J_block ?_
     refine J_seq ?_
     refine J_region ?_
     refine JLp (T_ix sl39 (.mk rfl) rfl hx26) rfl (nofun) .none ?_
     refine JLp (T_load ty62 rfl) rfl (nofun) .none ?_
     refine JLa (T_alloc z62 lay_api_Extent) rfl .none fun b27 => ?_
     refine JLn1 (T_store ty62 rfl (.mk rfl) (SetF.self lay_api_Extent)) .none ?_
     refine JL_nil ?_
     refine KJ_nrm_then (KJ_J ?_)
     refine J_seq ?_
     refine J_region ?_
     refine JLp (T_loadw ty62 rfl) rfl B0 .none ?_
     replace hb18 := bnd hb18; obtain ⟨x28, hx28, hb18⟩ := hb18
     refine JLe0 (T_call ⟨_, Try.func95, rfl, rfl⟩ (c_extent_within hx28) ⟨(.mk rfl), trivial⟩) rfl .none ?_
     refine JLp (T_move rfl) rfl (nofun) .none ?_
     refine JLp (T_extract rfl rfl) rfl (nofun) .none ?_
     refine JLp (T_extract rfl rfl) rfl (nofun) .none ?_
     refine JLp (T_extract rfl rfl) rfl (nofun) .none ?_
     refine JLp (T_assign rfl) rfl (nofun) .none ?_
     refine JLp (T_assign rfl) rfl (nofun) .none ?_
     refine JLp (T_assign rfl) rfl (nofun) .none ?_
     refine JL_nil ?_
     refine KJ_nrm_then (KJ_J ?_)
     refine J_seq ?_
     refine J_region ?_
     refine JLp (T_move rfl) rfl (nofun) .none ?_
     refine JL_nil ?_
     refine KJ_nrm_then (KJ_J ?_)
     replace hb18 := bnd hb18; obtain ⟨o30, ho31, hb18⟩ := hb18
     refine J_cuto o30 (fun (s32 : List extent_end) (g33 : Value) => [(11, (Rep.sl (Rep.sl r_api_Extent 2) 1).at a0), (12, (Rep.int .i64).at (a0.length : Int)), (13, (Rep.int .i64).at i8), (4, (Rep.int .i64).at i8), (18, (Rep.sl r_api_Extent 2).at x12), (19, (Rep.int .i64).at (x12.length : Int)), (20, (Rep.int .i64).at i21), (3, Rep.slv.at g33)]) (fun s32 g33 => Ent.box b27 r_api_Extent x25 :: Ent.row g33 151 3 r_extent_end s32 :: R) ?_ ?_
     ·refine J_test rfl (fun hq29 => ?_) (fun hq29 => ?_)
      ·replace ho31 := ift hq29 ho31
       refine J_region ?_
       refine JLp (T_move rfl) rfl (nofun) .none ?_
       refine JLp (T_move rfl) rfl (nofun) .none ?_
       refine JLp (T_move rfl) rfl (nofun) .none ?_
       refine JLp (T_build (s' := (⟨x28.1, i8, 1⟩ : extent_end)) bd151 z151 lay_extent_end (.cons (π := (Rep.int .i64)) (.mk rfl) rfl (Lay.int _) sf_extent_end_at_ (.cons (π := (Rep.int .i64)) (.mk rfl) rfl (Lay.int _) sf_extent_end_list (.cons (π := (Rep.int .i64)) (.mk rfl) rfl (Lay.int _) sf_extent_end_step .nil)))) rfl (nofun) .none ?_
       refine JLp (T_move rfl) rfl (nofun) .none ?_
       refine JLp (T_move rfl) rfl (nofun) .none ?_
       refine JLp (T_build (s' := (⟨x28.2.1, i8, (-1)⟩ : extent_end)) bd151 z151 lay_extent_end (.cons (π := (Rep.int .i64)) (.mk rfl) rfl (Lay.int _) sf_extent_end_at_ (.cons (π := (Rep.int .i64)) (.mk rfl) rfl (Lay.int _) sf_extent_end_list (.cons (π := (Rep.int .i64)) (.mk rfl) rfl (Lay.int _) sf_extent_end_step .nil)))) rfl (nofun) .none ?_
       refine JLe0 (T_bslice (ρ := r_extent_end) sl147 lay_extent_end (.cons (.mk rfl) (.cons (.mk rfl) .nil)) rfl (by decide)) rfl .none ?_
       replace ho31 := bnd ho31; obtain ⟨x34, hx34, ho31⟩ := ho31
       refine JL.perm F1 ?_
       refine JLe1 (T_append sl147 ⟨_, lay_extent_end⟩ (.mk rfl) (.mk rfl) hx34) rfl .none fun g35 => ?_
       refine JLp (T_assign rfl) rfl (nofun) .none ?_
       refine JL_nil ?_
       refine KJ_nrm_kq ?_
       refine KJ.perm F1 ?_
       exact KJ_ot x34 g35 (inj ho31) (.cons rfl (.cons rfl (.cons rfl (.cons rfl (.cons rfl (.cons rfl (.cons rfl (.cons rfl (.nil _))))))))) rfl
      ·replace ho31 := iff_ hq29 ho31
       refine J_skip ?_
       refine KJ_nrm_kq ?_
       exact KJ_ot s14 g15 (inj ho31) (.cons rfl (.cons rfl (.cons rfl (.cons rfl (.cons rfl (.cons rfl (.cons rfl (.cons rfl (.nil _))))))))) rfl
     ·intro s32 g33 hs
      subst hs
      replace hb18 := thn hb18
      refine KJ_nrm_blk ?_
      refine KJ_nrm_then (KJ_J ?_)
      refine J_region ?_
      refine JLp (T_addw rfl rfl hw24) rfl (nofun) .none ?_
      refine JLp (T_move rfl) rfl (nofun) .none ?_
      refine JL_nil ?_
      refine KJ_nrm_then ?_
      refine KJ.drop1 ?_
      exact KJ_nx s32 g33 (inj hb18) (.cons rfl (.cons rfl (.cons rfl (.cons rfl (.cons rfl (.cons rfl (.cons rfl (.cons rfl (.nil _))))))))) rfl
   ·intro s14 g15 hs
    subst hs
    replace hb5 := thn hb5
    refine KJ_nrm_blk ?_
    refine KJ_nrm_then (KJ_J ?_)
    refine J_region ?_
    refine JLp (T_addw rfl rfl hw11) rfl (nofun) .none ?_
    refine JLp (T_move rfl) rfl (nofun) .none ?_
    refine JL_nil ?_
    refine KJ_nrm_then ?_
    exact KJ_nx s14 g15 (inj hb5) (.cons rfl (.cons rfl (.cons rfl (.cons rfl (.nil _))))) rfl
 ·intro s1 g2 hs
  subst hs
  replace h := thn h
  refine KJ_nrm_then (KJ_J ?_)
  refine J_seq ?_
  refine J_region ?_
  refine JLp (T_move rfl) rfl (nofun) .none ?_
  replace h := bnd h; obtain ⟨x36, hx36, h⟩ := h
  refine JLe1 (T_call ⟨_, Try.func96, rfl, rfl⟩ (c_slices_SortFunc_extent_end_extent_end hx36) ⟨.mk rfl, ⟨.mk rfl, trivial⟩⟩) rfl .none fun _ => ?_
  refine JL_nil ?_
  refine KJ_nrm_then (KJ_J ?_)
  refine J_seq ?_
  refine J_region ?_
  refine JLp (T_move rfl) rfl (nofun) .none ?_
  refine JLp (T_assign rfl) rfl (nofun) .none ?_
  refine JL_nil ?_
  refine KJ_nrm_then (KJ_J ?_)
  refine J_ret ?_
  refine KJ_freeze (t := 2) rfl ?_
  obtain rfl := inj h
  exact KJ_ret1' Try.results92 (.tmp (.mk rfl) Rv.nil) rfl rfl
end Go.Proofs.Ytogflgcngfghpaa
end
section
set_option maxHeartbeats 4000000
set_option linter.unusedVariables false
set_option linter.unusedSimpArgs false
namespace Go.Proofs.Ytogflgcngfghpaa
open Go.J
def f_extent_sweep_1 (a1 : List api_Extent) (a2 : List api_Extent) (a3 : Bool → Bool → Option (Bool)) : Option (List api_Extent) :=
 Option.map Prod.fst (α := List api_Extent × Unit) ((f_extent_ends [a1, a2]).bind fun x1 => thenP (rangeW (σ := Int × Bool × List Int) (ρ := Unit) (β := api_Extent) (fun i15 x19 s3 => (inB 2 x19.list).bind fun x22 => (idx s3.2.2 x19.list).bind fun x23 => (inB 2 x19.list).bind fun x24 => (if (decide ((i15 + 1) < (x1.length : Int))) = true then (idx x1 (i15 + 1)).bind fun x25 => some (decide (x25.at_ = x19.at_)) else some false).bind fun c26 => if c26 = true then some ([], Rd.next (s3.1, s3.2.1, setI s3.2.2 x19.list (IntKind.i64.wrap (x23 + x19.step)))) else (inB 2 0).bind fun x28 => (idx (setI s3.2.2 x19.list (IntKind.i64.wrap (x23 + x19.step))) 0).bind fun x29 => (inB 2 1).bind fun x30 => (idx (setI s3.2.2 x19.list (IntKind.i64.wrap (x23 + x19.step))) 1).bind fun x31 => (a3 (decide (0 < x29)) (decide (0 < x31))).bind fun x32 => (if x32 = true then some (!s3.2.1) else some false).bind fun c33 => if c33 = true then if (!x32) = true then if s3.2.1 = true then emitP (⟨x19.at_, IntKind.i64.wrap (x19.at_ - x19.at_)⟩ : api_Extent) (some ([], Rd.next (x19.at_, x32, setI s3.2.2 x19.list (IntKind.i64.wrap (x23 + x19.step))))) else some ([], Rd.next (x19.at_, x32, setI s3.2.2 x19.list (IntKind.i64.wrap (x23 + x19.step)))) else some ([], Rd.next (x19.at_, x32, setI s3.2.2 x19.list (IntKind.i64.wrap (x23 + x19.step)))) else if (!x32) = true then if s3.2.1 = true then emitP (⟨s3.1, IntKind.i64.wrap (x19.at_ - s3.1)⟩ : api_Extent) (some ([], Rd.next (s3.1, x32, setI s3.2.2 x19.list (IntKind.i64.wrap (x23 + x19.step))))) else some ([], Rd.next (s3.1, x32, setI s3.2.2 x19.list (IntKind.i64.wrap (x23 + x19.step)))) else some ([], Rd.next (s3.1, x32, setI s3.2.2 x19.list (IntKind.i64.wrap (x23 + x19.step))))) x1 0 (0, false, (List.replicate 2 0))) fun s3 => some ([], ()))
theorem c_extent_sweep_1 {a1 : List api_Extent} {a2 : List api_Extent} {a3 : Bool → Bool → Option (Bool)} {xs : List api_Extent} (h : f_extent_sweep_1 a1 a2 a3 = some xs) : ItFn Try.prog 91 [(Rep.iptr (Rep.sl r_api_Extent 2)).at a1, (Rep.iptr (Rep.sl r_api_Extent 2)).at a2, (Rep.iptr (Rep.fn2 Try.prog Rep.bool Rep.bool Rep.bool)).at a3] r_api_Extent xs := by
 refine ItFn.mk Try.func91 rfl rfl Try.ntmps91 (by simp) fun l S D hR I O R hS => ?_
 unfold f_extent_sweep_1 at h
 replace h := Option.map_eq_some_iff.1 h
 obtain ⟨⟨ys, u⟩, h, rfl⟩ := h
 replace hS : S (ys ++ []) O := by simpa using hS
 refine J_seq ?_
 refine J_region ?_
 refine JLp (T_load ty39 rfl) rfl (nofun) .none ?_
 refine JLp (T_load ty39 rfl) rfl (nofun) .none ?_
 refine JLe0 (T_bslice (ρ := (Rep.sl r_api_Extent 2)) sl155 (Lay.sl _ _) (.cons (.mk rfl) (.cons (.mk rfl) .nil)) rfl (by decide)) rfl .none ?_
 replace h := bnd h; obtain ⟨x1, hx1, h⟩ := h
 refine JLe0 (T_call ⟨_, Try.func92, rfl, rfl⟩ (c_extent_ends hx1) ⟨(.mk rfl), trivial⟩) rfl .none ?_
 refine JLp (T_assign rfl) rfl (nofun) .none ?_
 refine JL_nil ?_
 refine KJ_nrm_then (KJ_J ?_)
 refine J_seq ?_
 refine J_region ?_
 refine JLa (T_alloc z149 (Lay.arr (Lay.int _))) rfl .none fun b2 => ?_
 refine JL_nil ?_
 refine KJ_nrm_then (KJ_J ?_)
 refine J_seq ?_
 refine J_region ?_
 refine JLp (T_assign rfl) rfl (nofun) .none ?_
 refine JLp (T_assign rfl) rfl (nofun) .none ?_
 refine JL_nil ?_
 refine KJ_nrm_then (KJ_J ?_)
 refine J_seq ?_
 refine J_region ?_
 refine JLp (T_move rfl) rfl (nofun) .none ?_
 refine JLp (T_len (ρ := r_extent_end) sl147 (.mk rfl)) rfl (nofun) .none ?_
 refine JLp (T_move rfl) rfl (nofun) .none ?_
 refine JL_nil ?_
 refine KJ_nrm_then (KJ_J ?_)
 replace h := thenP_some h
 obtain ⟨z7, o5, ho6, tl8, rfl, h⟩ := h
 rw [List.append_assoc] at hS
 refine J_cutw (out := o5) S (tl8 ++ []) (fun (s3 : Int × Bool × List Int) => []) (fun s3 C => Ent.box b2 (Rep.arr (Rep.int .i64) 1 2) s3.2.2 :: (C ++ R)) ?_ ?_
 ·refine J_block ?_
  refine J_lim (ρ := r_extent_end) (n := 3) (l := x1) (x := .tmp 16) (.mk rfl) fun hl => ?_
  refine J_rangeW ho6 (tl8 ++ []) S hS hl (fun i15 (s3 : Int × Bool × List Int) => [(0, Pr.yield l), (3, (Rep.iptr (Rep.fn2 Try.prog Rep.bool Rep.bool Rep.bool)).at a3), (5, (Rep.sl r_extent_end 3).at x1), (6, Rep.ptr.at (b2, 0)), (16, (Rep.sl r_extent_end 3).at x1), (17, (Rep.int .i64).at (x1.length : Int)), (7, (Rep.int .i64).at s3.1), (8, Rep.bool.at s3.2.1), (18, (Rep.int .i64).at i15)]) (fun i15 s3 C => Ent.box b2 (Rep.arr (Rep.int .i64) 1 2) s3.2.2 :: (C ++ R)) (.cons rfl (.cons rfl (.cons rfl (.cons rfl (.cons rfl (.cons rfl (.cons rfl (.cons rfl (.cons rfl (.nil _)))))))))) rfl ?_ ?_
  ·intro s3 C12 hgo hS
   refine J_seq (J_region (JLp (T_lss rfl rfl) rfl (nofun) .none (JL_nil (KJ_nrm_then (KJ_J ?_)))))
   refine J_seq (J_test rfl (fun hp => absurd (of_decide_eq_true hp) (by omega)) (fun _ => J_exit (KJ_exit_then (KJ_exit_then (KJ_exit_here ?_)))))
   exact KJ_otw s3 hgo hS (.nil _) rfl
  ·intro i15 x19 s3 C12 st11 y13 zv14 hi16 hj17 hx20 hw18 hb9 hf10 hS
   refine J_seq (J_region (JLp (T_lss rfl rfl) rfl (nofun) .none (JL_nil (KJ_nrm_then (KJ_J ?_)))))
   refine J_seq (J_test rfl (fun _ => J_skip (KJ_nrm_then (KJ_J ?_))) (fun hp => absurd hj17 (of_decide_eq_false hp)))
   refine J_seq ?_
   refine J_block ?_
   refine J_seq ?_
   refine J_region ?_
   refine JLp (T_move rfl) rfl (nofun) .none ?_
   refine JLp (T_ix sl147 (.mk rfl) rfl hx20) rfl (nofun) .none ?_
   refine JLp (T_load ty151 rfl) rfl (nofun) .none ?_
   refine JLa (T_alloc z151 lay_extent_end) rfl .none fun b21 => ?_
   refine JLp (T_assign rfl) rfl (nofun) .none ?_
   refine JLn1 (T_store ty151 rfl (.mk rfl) (SetF.self lay_extent_end)) .none ?_
   refine JL_nil ?_
   refine KJ_nrm_then (KJ_J ?_)
   refine J_seq ?_
   replace hb9 := bnd hb9; obtain ⟨x22, hx22, hb9⟩ := hb9
   replace hb9 := bnd hb9; obtain ⟨x23, hx23, hb9⟩ := hb9
   refine J_drawR (Ks := []) rfl (by kernel_rfl) fun K hK => ?_
   refine DR.p (.base (t := 10) rfl .nil) (T_faddr fo151_1 rfl) .none rfl rfl (nofun) ?_
   refine DR.p (.dep 0 0 rfl rfl rfl .nil) (T_loadb ty3 rfl hf_extent_end_list) .none rfl rfl B0 ?_
   refine DR.p (.base (t := 6) rfl (.dep 1 0 rfl rfl rfl .nil)) (T_ixb ar149 (by decide) rfl rfl hx22) .none rfl rfl (nofun) ?_
   refine DR.p (.dep 2 0 rfl rfl rfl .nil) (T_loada (i := x19.list) (n := 1) (p := 0) ty3 rfl hx23 (HasF.self _)) .none rfl rfl B1 ?_
   refine DR.p (.base (t := 10) rfl .nil) (T_faddr fo151_2 rfl) .none rfl rfl (nofun) ?_
   refine DR.p (.dep 4 0 rfl rfl rfl .nil) (T_loadb ty3 rfl hf_extent_end_step) .none rfl rfl B0 ?_
   refine DR.tail (by kernel_rfl) (.refl _) rfl ?_
   simp only [List.reverse_cons, List.reverse_nil, List.nil_append, List.cons_append, DT]
   refine JLp (T_add rfl rfl) rfl (nofun) .none ?_
   replace hb9 := bnd hb9; obtain ⟨x24, hx24, hb9⟩ := hb9
   refine JLp (T_ixb ar149 (by decide) rfl rfl hx24) rfl (nofun) .none ?_
   refine JL.perm F1 ?_
   refine JLn1 (T_storea (i := x19.list) ty3 rfl (.mk rfl) hx24) .none ?_
   refine JL_nil (KJ_hid hK ?_)
   refine KJ_nrm_then (KJ_J ?_)
   refine J_seq ?_
   refine J_seq ?_
   replace hb9 := bnd hb9; obtain ⟨c26, hc26, hb9⟩ := hb9
   refine J_cutN [(0, Pr.yield l), (3, (Rep.iptr (Rep.fn2 Try.prog Rep.bool Rep.bool Rep.bool)).at a3), (5, (Rep.sl r_extent_end 3).at x1), (6, Rep.ptr.at (b2, 0)), (16, (Rep.sl r_extent_end 3).at x1), (17, (Rep.int .i64).at (x1.length : Int)), (7, (Rep.int .i64).at s3.1), (8, Rep.bool.at s3.2.1), (18, (Rep.int .i64).at i15), (10, Rep.ptr.at (b21, 0)), (46, Rep.bool.at c26)] (Ent.box b2 (Rep.arr (Rep.int .i64) 1 2) (setI s3.2.2 x19.list (IntKind.i64.wrap (x23 + x19.step))) :: Ent.box b21 r_extent_end x19 :: (C12 ++ R)) ?_ ?_
   ·rcases Bool.eq_false_or_eq_true (decide ((i15 + 1) < (x1.length : Int))) with hqc26 | hqc26
    ·replace hc26 := ift hqc26 hc26
     replace hc26 := bnd hc26; obtain ⟨x25, hx25, hc26⟩ := hc26
     obtain rfl := inj hc26
     refine J_drawR (Ks := []) rfl (by kernel_rfl) fun K hK => ?_
     refine DR.p (.base (t := 9) rfl .nil) (T_move rfl) .none rfl rfl (nofun) ?_
     refine DR.p (.dep 0 0 rfl rfl rfl .nil) (T_addw rfl rfl hw18) .none rfl rfl (nofun) ?_
     refine DR.p (.base (t := 5) rfl .nil) (T_move rfl) .none rfl rfl (nofun) ?_
     refine DR.p (.dep 2 0 rfl rfl rfl .nil) (T_len (ρ := r_extent_end) sl147 (.mk rfl)) .none rfl rfl (nofun) ?_
     refine DR.p (.dep 1 2 rfl rfl rfl (.dep 3 0 rfl rfl rfl .nil)) (T_lss rfl rfl) .none rfl rfl (nofun) ?_
     refine DR.p (.dep 4 0 rfl rfl rfl .nil) (T_move rfl) .none rfl rfl (nofun) ?_
     refine DR.p (.base (t := 5) rfl (.dep 5 0 rfl rfl rfl .nil)) (T_move rfl) (.y rfl rfl hqc26) rfl rfl (nofun) ?_
     refine DR.p (.base (t := 9) rfl (.dep 5 1 rfl rfl rfl .nil)) (T_move rfl) (.y rfl rfl hqc26) rfl rfl (nofun) ?_
     refine DR.p (.dep 7 0 rfl rfl rfl (.dep 5 2 rfl rfl rfl .nil)) (T_addw rfl rfl hw18) (.y rfl rfl hqc26) rfl rfl (nofun) ?_
     refine DR.p (.dep 6 2 rfl rfl rfl (.dep 8 0 rfl rfl rfl (.dep 5 3 rfl rfl rfl .nil))) (T_ix sl147 (.mk rfl) rfl hx25) (.y rfl rfl hqc26) rfl rfl (nofun) ?_
     refine DR.p (.dep 9 0 rfl rfl rfl (.dep 5 4 rfl rfl rfl .nil)) (T_faddri fo151_0 rfl hf_extent_end_at_) (.y rfl rfl hqc26) rfl rfl (nofun) ?_
     refine DR.p (.dep 10 0 rfl rfl rfl (.dep 5 5 rfl rfl rfl .nil)) (T_load ty3 rfl) (.y rfl rfl hqc26) rfl rfl (nofun) ?_
     refine DR.p (.base (t := 10) rfl (.dep 5 6 rfl rfl rfl .nil)) (T_faddr fo151_0 rfl) (.y rfl rfl hqc26) rfl rfl (nofun) ?_
     refine DR.p (.dep 12 0 rfl rfl rfl (.dep 5 7 rfl rfl rfl .nil)) (T_loadb ty3 rfl hf_extent_end_at_) (.y rfl rfl hqc26) rfl rfl B1 ?_
     refine DR.tail (by kernel_rfl) (.refl _) rfl ?_
     simp only [List.reverse_cons, List.reverse_nil, List.nil_append, List.cons_append, DT]
     refine JLp (T_eql rfl rfl) rfl (nofun) (.y rfl rfl hqc26) ?_
     refine JLp (T_pickT rfl hqc26 rfl) rfl (nofun) .none ?_
     refine JL_nil (KJ_hid hK ?_)
     exact KJ.sub KJ_end (.cons rfl (.cons rfl (.cons rfl (.cons rfl (.cons rfl (.cons rfl (.cons rfl (.cons rfl (.cons rfl (.cons rfl (.cons rfl (.nil _))))))))))))
    ·replace hc26 := iff_ hqc26 hc26
     obtain rfl := inj hc26
     refine J_drawR (Ks := []) rfl (by kernel_rfl) fun K hK => ?_
     refine DR.p (.base (t := 9) rfl .nil) (T_move rfl) .none rfl rfl (nofun) ?_
     refine DR.p (.dep 0 0 rfl rfl rfl .nil) (T_addw rfl rfl hw18) .none rfl rfl (nofun) ?_
     refine DR.p (.base (t := 5) rfl .nil) (T_move rfl) .none rfl rfl (nofun) ?_
     refine DR.p (.dep 2 0 rfl rfl rfl .nil) (T_len (ρ := r_extent_end) sl147 (.mk rfl)) .none rfl rfl (nofun) ?_
     refine DR.p (.dep 1 2 rfl rfl rfl (.dep 3 0 rfl rfl rfl .nil)) (T_lss rfl rfl) .none rfl rfl (nofun) ?_
     refine DR.p (.dep 4 0 rfl rfl rfl .nil) (T_move rfl) .none rfl rfl (nofun) ?_
     refine DR.x (.dep 5 0 rfl rfl rfl .nil) rfl rfl hqc26 rfl rfl ?_
     refine DR.x (.dep 5 1 rfl rfl rfl .nil) rfl rfl hqc26 rfl rfl ?_
     refine DR.x (.dep 5 2 rfl rfl rfl .nil) rfl rfl hqc26 rfl rfl ?_
     refine DR.x (.dep 5 3 rfl rfl rfl .nil) rfl rfl hqc26 rfl rfl ?_
     refine DR.x (.dep 5 4 rfl rfl rfl .nil) rfl rfl hqc26 rfl rfl ?_
     refine DR.x (.dep 5 5 rfl rfl rfl .nil) rfl rfl hqc26 rfl rfl ?_
     refine DR.x (.dep 5 6 rfl rfl rfl .nil) rfl rfl hqc26 rfl rfl ?_
     refine DR.x (.dep 5 7 rfl rfl rfl .nil) rfl rfl hqc26 rfl rfl ?_
     refine DR.tail (by kernel_rfl) (.refl _) rfl ?_
     simp only [List.reverse_cons, List.reverse_nil, List.nil_append, List.cons_append, DT]
     refine JLs rfl rfl hqc26 rfl ?_
     refine JLp (T_pickF rfl hqc26 rfl) rfl (nofun) .none ?_
     refine JL_nil (KJ_hid hK ?_)
     exact KJ.sub KJ_end (.cons rfl (.cons rfl (.cons rfl (.cons rfl (.cons rfl (.cons rfl (.cons rfl (.cons rfl (.cons rfl (.cons rfl (.cons rfl (.nil _))))))))))))
   ·refine KJ_nrm_then (KJ_J ?_)
    refine J_test rfl (fun hq27 => ?_) (fun hq27 => ?_)
    ·replace hb9 := ift hq27 hb9
     refine J_exit ?_
     refine KJ_exit_then ?_
     refine KJ_exit_here ?_
     refine KJ_nrm_then (KJ_J ?_)
     refine J_region ?_
     refine JLp (T_addw rfl rfl hw18) rfl (nofun) .none ?_
     refine JLp (T_move rfl) rfl (nofun) .none ?_
     refine JL_nil ?_
     refine KJ_nrm_then ?_
     refine KJ.perm F1 ?_
     refine KJ.drop1 ?_
     obtain ⟨rfl, rfl⟩ := injP hb9
     exact KJ_nxw (s3.1, s3.2.1, setI s3.2.2 x19.list (IntKind.i64.wrap (x23 + x19.step))) rfl hS (.cons rfl (.cons rfl (.cons rfl (.cons rfl (.cons rfl (.cons rfl (.cons rfl (.cons rfl (.cons rfl (.nil _)))))))))) rfl
    ·replace hb9 := iff_ hq27 hb9
     refine J_skip ?_
     refine KJ_nrm_then (KJ_J ?_)
     refine J_seq ?_
     refine J_region ?_
     refine JLp (T_load ty136 rfl) rfl (nofun) .none ?_
     replace hb9 := bnd hb9; obtain ⟨x28, hx28, hb9⟩ := hb9
     refine JLp (T_ixb ar149 (by decide) rfl rfl hx28) rfl (nofun) .none ?_
     replace hb9 := bnd hb9; obtain ⟨x29, hx29, hb9⟩ := hb9
     refine JLp (T_loada (i := 0) (n := 1) (p := 0) ty3 rfl hx29 (HasF.self _)) rfl B0 .none ?_
     refine JLp (T_gtr rfl rfl) rfl (nofun) .none ?_
     replace hb9 := bnd hb9; obtain ⟨x30, hx30, hb9⟩ := hb9
     refine JLp (T_ixb ar149 (by decide) rfl rfl hx30) rfl (nofun) .none ?_
     replace hb9 := bnd hb9; obtain ⟨x31, hx31, hb9⟩ := hb9
     refine JLp (T_loada (i := 1) (n := 1) (p := 0) ty3 rfl hx31 (HasF.self _)) rfl B0 .none ?_
     refine JLp (T_gtr rfl rfl) rfl (nofun) .none ?_
     replace hb9 := bnd hb9; obtain ⟨x32, hx32, hb9⟩ := hb9
     refine JLe0 (T_fn2 rfl hx32 ⟨(.mk rfl), ⟨(.mk rfl), trivial⟩⟩) rfl .none ?_
     refine JLp (T_assign rfl) rfl (nofun) .none ?_
     refine JL_nil ?_
     refine KJ_nrm_then (KJ_J ?_)
     refine J_seq ?_
     refine J_seq ?_
     refine J_region ?_
     refine JLp (T_move rfl) rfl (nofun) .none ?_
     refine JLp (T_move rfl) rfl (nofun) .none ?_
     replace hb9 := bnd hb9; obtain ⟨c33, hc33, hb9⟩ := hb9
     refine JL_at 3 [(0, Pr.yield l), (3, (Rep.iptr (Rep.fn2 Try.prog Rep.bool Rep.bool Rep.bool)).at a3), (5, (Rep.sl r_extent_end 3).at x1), (6, Rep.ptr.at (b2, 0)), (16, (Rep.sl r_extent_end 3).at x1), (17, (Rep.int .i64).at (x1.length : Int)), (7, (Rep.int .i64).at s3.1), (8, Rep.bool.at s3.2.1), (18, (Rep.int .i64).at i15), (10, Rep.ptr.at (b21, 0)), (11, Rep.bool.at x32), (59, Rep.bool.at c33)] (Ent.box b2 (Rep.arr (Rep.int .i64) 1 2) (setI s3.2.2 x19.list (IntKind.i64.wrap (x23 + x19.step))) :: Ent.box b21 r_extent_end x19 :: (C12 ++ R)) ?_ ?_
     ·rcases Bool.eq_false_or_eq_true x32 with hq34 | hq34
      ·replace hc33 := ift hq34 hc33
       refine JLp (T_move rfl) rfl (nofun) (.y rfl rfl hq34) ?_
       refine JLp (T_not rfl) rfl (nofun) (.y rfl rfl hq34) ?_
       obtain rfl := inj hc33
       refine JLp (T_pickT rfl hq34 rfl) rfl (nofun) .none ?_
       refine JL_nil ?_
       exact KJ.sub KJ_end (.cons rfl (.cons rfl (.cons rfl (.cons rfl (.cons rfl (.cons rfl (.cons rfl (.cons rfl (.cons rfl (.cons rfl (.cons rfl (.cons rfl (.nil _)))))))))))))
      ·replace hc33 := iff_ hq34 hc33
       obtain rfl := inj hc33
       refine JLs rfl rfl hq34 rfl ?_
       refine JLs rfl rfl hq34 rfl ?_
       refine JLp (T_pickF rfl hq34 rfl) rfl (nofun) .none ?_
       refine JL_nil ?_
       exact KJ.sub KJ_end (.cons rfl (.cons rfl (.cons rfl (.cons rfl (.cons rfl (.cons rfl (.cons rfl (.cons rfl (.cons rfl (.cons rfl (.cons rfl (.cons rfl (.nil _)))))))))))))
     refine JL_nil ?_
     refine KJ_nrm_then (KJ_J ?_)
     refine J_test rfl (fun hq35 => ?_) (fun hq35 => ?_)
     ·replace hb9 := ift hq35 hb9
      refine J_region ?_
      refine JLp (T_faddr fo151_0 rfl) rfl (nofun) .none ?_
      refine JLp (T_loadb ty3 rfl hf_extent_end_at_) rfl B1 .none ?_
      refine JLp (T_assign rfl) rfl (nofun) .none ?_
      refine JL_nil ?_
      refine KJ_nrm_then (KJ_J ?_)
      refine J_seq ?_
      refine J_seq ?_
      refine J_region ?_
      refine JLp (T_move rfl) rfl (nofun) .none ?_
      refine JLp (T_not rfl) rfl (nofun) .none ?_
      refine JLp (T_move rfl) rfl (nofun) .none ?_
      rcases Bool.eq_false_or_eq_true (!x32) with hq36 | hq36
      ·replace hb9 := ift hq36 hb9
       refine JLp (T_move rfl) rfl (nofun) (.y rfl rfl hq36) ?_
       refine JLp (T_pickT rfl hq36 rfl) rfl (nofun) .none ?_
       refine JLp (T_move rfl) rfl (nofun) .none ?_
       rcases Bool.eq_false_or_eq_true s3.2.1 with hq37 | hq37
       ·replace hb9 := ift hq37 hb9
        refine JLp (T_move rfl) rfl (nofun) (.y rfl rfl hq37) ?_
        refine JLp (T_move rfl) rfl (nofun) (.y rfl rfl hq37) ?_
        refine JLp (T_faddr fo151_0 rfl) rfl (nofun) (.y rfl rfl hq37) ?_
        refine JLp (T_loadb ty3 rfl hf_extent_end_at_) rfl B1 (.y rfl rfl hq37) ?_
        refine JLp (T_move rfl) rfl (nofun) (.y rfl rfl hq37) ?_
        refine JLp (T_sub rfl rfl) rfl (nofun) (.y rfl rfl hq37) ?_
        refine JLp (T_build (s' := (⟨x19.at_, IntKind.i64.wrap (x19.at_ - x19.at_)⟩ : api_Extent)) bd62 z62 lay_api_Extent (.cons (π := (Rep.int .i64)) (.mk rfl) rfl (Lay.int _) sf_api_Extent_Start (.cons (π := (Rep.int .i64)) (.mk rfl) rfl (Lay.int _) sf_api_Extent_Count .nil))) rfl (nofun) (.y rfl rfl hq37) ?_
        replace hb9 := emitP_some hb9
        obtain ⟨ys38, rfl, hb9⟩ := hb9
        refine JL.perm (List.perm_append_comm_assoc [Ent.box b2 (Rep.arr (Rep.int .i64) 1 2) (setI s3.2.2 x19.list (IntKind.i64.wrap (x23 + x19.step))), Ent.box b21 r_extent_end x19] C12 R) ?_
        refine JLe (κ := C12) (T_yield (v := (⟨x19.at_, IntKind.i64.wrap (x19.at_ - x19.at_)⟩ : api_Extent)) (rest := ys38 ++ zv14) hR hS rfl (.mk rfl)) rfl (.y rfl rfl hq37) fun q41 => ?_
        obtain ⟨⟨b39, C40⟩, hq411, hq412⟩ := q41
        refine JL.perm (List.perm_append_comm_assoc C40 [Ent.box b2 (Rep.arr (Rep.int .i64) 1 2) (setI s3.2.2 x19.list (IntKind.i64.wrap (x23 + x19.step))), Ent.box b21 r_extent_end x19] R) ?_
        refine JLp (T_not rfl) rfl (nofun) (.y rfl rfl hq37) ?_
        refine JLp (T_pickT rfl hq37 rfl) rfl (nofun) .none ?_
        refine JL_nil ?_
        refine KJ_nrm_then (KJ_J ?_)
        refine J_test rfl (fun hq42 => ?_) (fun hq42 => ?_)
        ·refine J_ret ?_
         refine KJ_ret_then ?_
         refine KJ_ret_blk ?_
         refine KJ_ret_then ?_
         refine KJ_ret_then ?_
         refine KJ_ret_blk ?_
         refine KJ_ret_kq ?_
         refine KJ.drop1 ?_
         refine KJ.drop1 ?_
         exact KJ_reti rfl Try.results91 (.inr (hq412 (by simpa using hq42)))
        ·have hS := hq411 (by simpa using hq42)
         refine J_skip ?_
         refine KJ_nrm_then (KJ_J ?_)
         refine J_region ?_
         refine JLp (T_move rfl) rfl (nofun) .none ?_
         refine JLp (T_assign rfl) rfl (nofun) .none ?_
         refine JL_nil ?_
         refine KJ_nrm_blk ?_
         refine KJ_nrm_then (KJ_J ?_)
         refine J_region ?_
         refine JLp (T_addw rfl rfl hw18) rfl (nofun) .none ?_
         refine JLp (T_move rfl) rfl (nofun) .none ?_
         refine JL_nil ?_
         refine KJ_nrm_then ?_
         refine KJ.perm F1 ?_
         refine KJ.drop1 ?_
         obtain ⟨rfl, rfl⟩ := injP hb9
         exact KJ_nxw (x19.at_, x32, setI s3.2.2 x19.list (IntKind.i64.wrap (x23 + x19.step))) rfl hS (.cons rfl (.cons rfl (.cons rfl (.cons rfl (.cons rfl (.cons rfl (.cons rfl (.cons rfl (.cons rfl (.nil _)))))))))) rfl
       ·replace hb9 := iff_ hq37 hb9
        refine JLs rfl rfl hq37 rfl ?_
        refine JLs rfl rfl hq37 rfl ?_
        refine JLs rfl rfl hq37 rfl ?_
        refine JLs rfl rfl hq37 rfl ?_
        refine JLs rfl rfl hq37 rfl ?_
        refine JLs rfl rfl hq37 rfl ?_
        refine JLs rfl rfl hq37 rfl ?_
        refine JLs rfl rfl hq37 rfl ?_
        refine JLs rfl rfl hq37 rfl ?_
        refine JLp (T_pickF rfl hq37 rfl) rfl (nofun) .none ?_
        refine JL_nil ?_
        refine KJ_nrm_then (KJ_J ?_)
        refine J_test rfl (fun hq43 => ?_) (fun hq43 => ?_)
        ·cases hq43
        ·refine J_skip ?_
         refine KJ_nrm_then (KJ_J ?_)
         refine J_region ?_
         refine JLp (T_move rfl) rfl (nofun) .none ?_
         refine JLp (T_assign rfl) rfl (nofun) .none ?_
         refine JL_nil ?_
         refine KJ_nrm_blk ?_
         refine KJ_nrm_then (KJ_J ?_)
         refine J_region ?_
         refine JLp (T_addw rfl rfl hw18) rfl (nofun) .none ?_
         refine JLp (T_move rfl) rfl (nofun) .none ?_
         refine JL_nil ?_
         refine KJ_nrm_then ?_
         refine KJ.perm F1 ?_
         refine KJ.drop1 ?_
         obtain ⟨rfl, rfl⟩ := injP hb9
         exact KJ_nxw (x19.at_, x32, setI s3.2.2 x19.list (IntKind.i64.wrap (x23 + x19.step))) rfl hS (.cons rfl (.cons rfl (.cons rfl (.cons rfl (.cons rfl (.cons rfl (.cons rfl (.cons rfl (.cons rfl (.nil _)))))))))) rfl
      ·replace hb9 := iff_ hq36 hb9
       refine JLs rfl rfl hq36 rfl ?_
       refine JLp (T_pickF rfl hq36 rfl) rfl (nofun) .none ?_
       refine JLp (T_move rfl) rfl (nofun) .none ?_
       refine JLs rfl rfl rfl rfl ?_
       refine JLs rfl rfl rfl rfl ?_
       refine JLs rfl rfl rfl rfl ?_
       refine JLs rfl rfl rfl rfl ?_
       refine JLs rfl rfl rfl rfl ?_
       refine JLs rfl rfl rfl rfl ?_
       refine JLs rfl rfl rfl rfl ?_
       refine JLs rfl rfl rfl rfl ?_
       refine JLs rfl rfl rfl rfl ?_
       refine JLp (T_pickF rfl rfl rfl) rfl (nofun) .none ?_
       refine JL_nil ?_
       refine KJ_nrm_then (KJ_J ?_)
       refine J_test rfl (fun hq44 => ?_) (fun hq44 => ?_)
       ·cases hq44
       ·refine J_skip ?_
        refine KJ_nrm_then (KJ_J ?_)
        refine J_region ?_
        refine JLp (T_move rfl) rfl (nofun) .none ?_
        refine JLp (T_assign rfl) rfl (nofun) .none ?_
        refine JL_nil ?_
        refine KJ_nrm_blk ?_
        refine KJ_nrm_then (KJ_J ?_)
        refine J_region ?_
        refine JLp (T_addw rfl rfl hw18) rfl (nofun) .none ?_
        refine JLp (T_move rfl) rfl (nofun) .none ?_
        refine JL_nil ?_
        refine KJ_nrm_then ?_
        refine KJ.perm F1 ?_
        refine KJ.drop1 ?_
        obtain ⟨rfl, rfl⟩ := injP hb9
        exact KJ_nxw (x19.at_, x32, setI s3.2.2 x19.list (IntKind.i64.wrap (x23 + x19.step))) rfl hS (.cons rfl (.cons rfl (.cons rfl (.cons rfl (.cons rfl (.cons rfl (.cons rfl (.cons rfl (.cons rfl (.nil _)))))))))) rfl
     ·replace hb9 := iff_ hq35 hb9
      refine J_skip ?_
      refine KJ_nrm_then (KJ_J ?_)
      refine J_seq ?_
      refine J_seq ?_
      refine J_region ?_
      refine JLp (T_move rfl) rfl (nofun) .none ?_
      refine JLp (T_not rfl) rfl (nofun) .none ?_
      refine JLp (T_move rfl) rfl (nofun) .none ?_
      rcases Bool.eq_false_or_eq_true (!x32) with hq45 | hq45
      ·replace hb9 := ift hq45 hb9
       refine JLp (T_move rfl) rfl (nofun) (.y rfl rfl hq45) ?_
       refine JLp (T_pickT rfl hq45 rfl) rfl (nofun) .none ?_
       refine JLp (T_move rfl) rfl (nofun) .none ?_
       rcases Bool.eq_false_or_eq_true s3.2.1 with hq46 | hq46
       ·replace hb9 := ift hq46 hb9
        refine JLp (T_move rfl) rfl (nofun) (.y rfl rfl hq46) ?_
        refine JLp (T_move rfl) rfl (nofun) (.y rfl rfl hq46) ?_
        refine JLp (T_faddr fo151_0 rfl) rfl (nofun) (.y rfl rfl hq46) ?_
        refine JLp (T_loadb ty3 rfl hf_extent_end_at_) rfl B1 (.y rfl rfl hq46) ?_
        refine JLp (T_move rfl) rfl (nofun) (.y rfl rfl hq46) ?_
        refine JLp (T_sub rfl rfl) rfl (nofun) (.y rfl rfl hq46) ?_
        refine JLp (T_build (s' := (⟨s3.1, IntKind.i64.wrap (x19.at_ - s3.1)⟩ : api_Extent)) bd62 z62 lay_api_Extent (.cons (π := (Rep.int .i64)) (.mk rfl) rfl (Lay.int _) sf_api_Extent_Start (.cons (π := (Rep.int .i64)) (.mk rfl) rfl (Lay.int _) sf_api_Extent_Count .nil))) rfl (nofun) (.y rfl rfl hq46) ?_
        replace hb9 := emitP_some hb9
        obtain ⟨ys47, rfl, hb9⟩ := hb9
        refine JL.perm (List.perm_append_comm_assoc [Ent.box b2 (Rep.arr (Rep.int .i64) 1 2) (setI s3.2.2 x19.list (IntKind.i64.wrap (x23 + x19.step))), Ent.box b21 r_extent_end x19] C12 R) ?_
        refine JLe (κ := C12) (T_yield (v := (⟨s3.1, IntKind.i64.wrap (x19.at_ - s3.1)⟩ : api_Extent)) (rest := ys47 ++ zv14) hR hS rfl (.mk rfl)) rfl (.y rfl rfl hq46) fun q50 => ?_
        obtain ⟨⟨b48, C49⟩, hq501, hq502⟩ := q50
        refine JL.perm (List.perm_append_comm_assoc C49 [Ent.box b2 (Rep.arr (Rep.int .i64) 1 2) (setI s3.2.2 x19.list (IntKind.i64.wrap (x23 + x19.step))), Ent.box b21 r_extent_end x19] R) ?_
        refine JLp (T_not rfl) rfl (nofun) (.y rfl rfl hq46) ?_
        refine JLp (T_pickT rfl hq46 rfl) rfl (nofun) .none ?_
        refine JL_nil ?_
        refine KJ_nrm_then (KJ_J ?_)
        refine J_test rfl (fun hq51 => ?_) (fun hq51 => ?_)
        ·refine J_ret ?_
         refine KJ_ret_then ?_
         refine KJ_ret_blk ?_
         refine KJ_ret_then ?_
         refine KJ_ret_then ?_
         refine KJ_ret_blk ?_
         refine KJ_ret_kq ?_
         refine KJ.drop1 ?_
         refine KJ.drop1 ?_
         exact KJ_reti rfl Try.results91 (.inr (hq502 (by simpa using hq51)))
        ·have hS := hq501 (by simpa using hq51)
         refine J_skip ?_
         refine KJ_nrm_then (KJ_J ?_)
         refine J_region ?_
         refine JLp (T_move rfl) rfl (nofun) .none ?_
         refine JLp (T_assign rfl) rfl (nofun) .none ?_
         refine JL_nil ?_
         refine KJ_nrm_blk ?_
         refine KJ_nrm_then (KJ_J ?_)
         refine J_region ?_
         refine JLp (T_addw rfl rfl hw18) rfl (nofun) .none ?_
         refine JLp (T_move rfl) rfl (nofun) .none ?_
         refine JL_nil ?_
         refine KJ_nrm_then ?_
         refine KJ.perm F1 ?_
         refine KJ.drop1 ?_
         obtain ⟨rfl, rfl⟩ := injP hb9
         exact KJ_nxw (s3.1, x32, setI s3.2.2 x19.list (IntKind.i64.wrap (x23 + x19.step))) rfl hS (.cons rfl (.cons rfl (.cons rfl (.cons rfl (.cons rfl (.cons rfl (.cons rfl (.cons rfl (.cons rfl (.nil _)))))))))) rfl
       ·replace hb9 := iff_ hq46 hb9
        refine JLs rfl rfl hq46 rfl ?_
        refine JLs rfl rfl hq46 rfl ?_
        refine JLs rfl rfl hq46 rfl ?_
        refine JLs rfl rfl hq46 rfl ?_
        refine JLs rfl rfl hq46 rfl ?_
        refine JLs rfl rfl hq46 rfl ?_
        refine JLs rfl rfl hq46 rfl ?_
        refine JLs rfl rfl hq46 rfl ?_
        refine JLs rfl rfl hq46 rfl ?_
        refine JLp (T_pickF rfl hq46 rfl) rfl (nofun) .none ?_
        refine JL_nil ?_
        refine KJ_nrm_then (KJ_J ?_)
        refine J_test rfl (fun hq52 => ?_) (fun hq52 => ?_)
        ·cases hq52
        ·refine J_skip ?_
         refine KJ_nrm_then (KJ_J ?_)
         refine J_region ?_
         refine JLp (T_move rfl) rfl (nofun) .none ?_
         refine JLp (T_assign rfl) rfl (nofun) .none ?_
         refine JL_nil ?_
         refine KJ_nrm_blk ?_
         refine KJ_nrm_then (KJ_J ?_)
         refine J_region ?_
         refine JLp (T_addw rfl rfl hw18) rfl (nofun) .none ?_
         refine JLp (T_move rfl) rfl (nofun) .none ?_
         refine JL_nil ?_
         refine KJ_nrm_then ?_
         refine KJ.perm F1 ?_
         refine KJ.drop1 ?_
         obtain ⟨rfl, rfl⟩ := injP hb9
         exact KJ_nxw (s3.1, x32, setI s3.2.2 x19.list (IntKind.i64.wrap (x23 + x19.step))) rfl hS (.cons rfl (.cons rfl (.cons rfl (.cons rfl (.cons rfl (.cons rfl (.cons rfl (.cons rfl (.cons rfl (.nil _)))))))))) rfl
      ·replace hb9 := iff_ hq45 hb9
       refine JLs rfl rfl hq45 rfl ?_
       refine JLp (T_pickF rfl hq45 rfl) rfl (nofun) .none ?_
       refine JLp (T_move rfl) rfl (nofun) .none ?_
       refine JLs rfl rfl rfl rfl ?_
       refine JLs rfl rfl rfl rfl ?_
       refine JLs rfl rfl rfl rfl ?_
       refine JLs rfl rfl rfl rfl ?_
       refine JLs rfl rfl rfl rfl ?_
       refine JLs rfl rfl rfl rfl ?_
       refine JLs rfl rfl rfl rfl ?_
       refine JLs rfl rfl rfl rfl ?_
       refine JLs rfl rfl rfl rfl ?_
       refine JLp (T_pickF rfl rfl rfl) rfl (nofun) .none ?_
       refine JL_nil ?_
       refine KJ_nrm_then (KJ_J ?_)
       refine J_test rfl (fun hq53 => ?_) (fun hq53 => ?_)
       ·cases hq53
       ·refine J_skip ?_
        refine KJ_nrm_then (KJ_J ?_)
        refine J_region ?_
        refine JLp (T_move rfl) rfl (nofun) .none ?_
        refine JLp (T_assign rfl) rfl (nofun) .none ?_
        refine JL_nil ?_
        refine KJ_nrm_blk ?_
        refine KJ_nrm_then (KJ_J ?_)
        refine J_region ?_
        refine JLp (T_addw rfl rfl hw18) rfl (nofun) .none ?_
        refine JLp (T_move rfl) rfl (nofun) .none ?_
        refine JL_nil ?_
        refine KJ_nrm_then ?_
        refine KJ.perm F1 ?_
        refine KJ.drop1 ?_
        obtain ⟨rfl, rfl⟩ := injP hb9
        exact KJ_nxw (s3.1, x32, setI s3.2.2 x19.list (IntKind.i64.wrap (x23 + x19.step))) rfl hS (.cons rfl (.cons rfl (.cons rfl (.cons rfl (.cons rfl (.cons rfl (.cons rfl (.cons rfl (.cons rfl (.nil _)))))))))) rfl
 ·intro s3 C54 hs hS
  subst hs
  replace h : _ = some _ := h
  refine KJ_end_body ?_
  obtain ⟨rfl, _⟩ := injP h
  refine KJ.drop1 ?_
  exact KJ_reti rfl Try.results91 (.inl hS)
end Go.Proofs.Ytogflgcngfghpaa
end
section
set_option maxHeartbeats 4000000
set_option linter.unusedVariables false
set_option linter.unusedSimpArgs false
namespace Go.Proofs.Ytogflgcngfghpaa
open Go.J
def f_extent_sweep (a0 : List api_Extent) (a1 : List api_Extent) (a2 : Bool → Bool → Option (Bool)) : Option (List api_Extent) :=
 (f_extent_sweep_1 a0 a1 a2).bind fun x1 => some x1
theorem c_extent_sweep {a0 : List api_Extent} {a1 : List api_Extent} {a2 : Bool → Bool → Option (Bool)} {r : List api_Extent} (h : f_extent_sweep a0 a1 a2 = some r) : Ct Try.prog 80 [(Rep.sl r_api_Extent 2).at a0, (Rep.sl r_api_Extent 2).at a1, (Rep.fn2 Try.prog Rep.bool Rep.bool Rep.bool).at a2] [] (fun _ : Unit => (Rep.iter Try.prog r_api_Extent).at r) (fun _ => []) := by
 refine Ct.mk Try.func80 rfl Try.ntmps80 (by simp) fun I R => ?_
 refine J.drop0 ?_
 unfold f_extent_sweep at h
 refine J_seq ?_
 refine J_region ?_
 refine JLe0 (T_box (ρ := (Rep.sl r_api_Extent 2)) (.mk rfl)) rfl .none ?_
 refine JLe0 (T_box (ρ := (Rep.sl r_api_Extent 2)) (.mk rfl)) rfl .none ?_
 refine JLe0 (T_box (ρ := (Rep.fn2 Try.prog Rep.bool Rep.bool Rep.bool)) (.mk rfl)) rfl .none ?_
 refine JLp (T_assign rfl) rfl (nofun) .none ?_
 refine JL_nil ?_
 refine KJ_nrm_then (KJ_J ?_)
 refine J_seq ?_
 refine J_region ?_
 replace h := bnd h; obtain ⟨x1, hx1, h⟩ := h
 refine JLp (T_mkit (c_extent_sweep_1 hx1) ⟨.mk rfl, ⟨.mk rfl, ⟨.mk rfl, trivial⟩⟩⟩) rfl (nofun) .none ?_
 refine JLp (T_assign rfl) rfl (nofun) .none ?_
 refine JL_nil ?_
 refine KJ_nrm_then (KJ_J ?_)
 refine J_ret ?_
 obtain rfl := inj h
 exact KJ_ret1' Try.results80 (.tmp (.mk rfl) Rv.nil) rfl rfl
end Go.Proofs.Ytogflgcngfghpaa
end
section
set_option maxHeartbeats 4000000
set_option linter.unusedVariables false
set_option linter.unusedSimpArgs false
namespace Go.Proofs.Ytogflgcngfghpaa
open Go.J
def f_extent_Union_1 (a0 : Bool) (a1 : Bool) : Option (Bool) :=
 (if a0 = true then some true else some a1).bind fun c1 => some c1
theorem c_extent_Union_1 {a0 : Bool} {a1 : Bool} {r : Bool} (h : f_extent_Union_1 a0 a1 = some r) : Ct Try.prog 81 [Rep.bool.at a0, Rep.bool.at a1] [] (fun _ : Unit => Rep.bool.at r) (fun _ => []) := by
 refine Ct.mk Try.func81 rfl Try.ntmps81 (by simp) fun I R => ?_
 refine J.drop0 ?_
 unfold f_extent_Union_1 at h
 refine J_seq ?_
 refine J_region ?_
 refine JLp (T_assign rfl) rfl (nofun) .none ?_
 refine JL_nil ?_
 refine KJ_nrm_then (KJ_J ?_)
 refine J_seq ?_
 refine J_region ?_
 refine JLp (T_move rfl) rfl (nofun) .none ?_
 refine JLp (T_move rfl) rfl (nofun) .none ?_
 replace h := bnd h; obtain ⟨c1, hc1, h⟩ := h
 refine JL_at 2 [(4, Rep.bool.at false), (8, Rep.bool.at c1)] (R) ?_ ?_
 ·rcases Bool.eq_false_or_eq_true a0 with hq2 | hq2
  ·replace hc1 := ift hq2 hc1
   obtain rfl := inj hc1
   refine JLs rfl rfl hq2 rfl ?_
   refine JLp (T_pickT rfl hq2 rfl) rfl (nofun) .none ?_
   refine JL_nil ?_
   exact KJ.sub KJ_end (.cons rfl (.cons rfl (.nil _)))
  ·replace hc1 := iff_ hq2 hc1
   refine JLp (T_move rfl) rfl (nofun) (.y rfl rfl hq2) ?_
   obtain rfl := inj hc1
   refine JLp (T_pickF rfl hq2 rfl) rfl (nofun) .none ?_
   refine JL_nil ?_
   exact KJ.sub KJ_end (.cons rfl (.cons rfl (.nil _)))
 refine JLp (T_assign rfl) rfl (nofun) .none ?_
 refine JL_nil ?_
 refine KJ_nrm_then (KJ_J ?_)
 refine J_ret ?_
 obtain rfl := inj h
 exact KJ_ret1' Try.results81 (.tmp (.mk rfl) Rv.nil) rfl rfl
end Go.Proofs.Ytogflgcngfghpaa
end
section
set_option maxHeartbeats 4000000
set_option linter.unusedVariables false
set_option linter.unusedSimpArgs false
namespace Go.Proofs.Ytogflgcngfghpaa
open Go.J
def f_extent_Union (a0 : List api_Extent) (a1 : List api_Extent) : Option (List api_Extent) :=
 (f_extent_sweep a0 a1 f_extent_Union_1).bind fun x1 => (f_slices_Collect_api_Extent x1).bind fun x2 => some x2
theorem c_extent_Union {a0 : List api_Extent} {a1 : List api_Extent} {r : List api_Extent} (h : f_extent_Union a0 a1 = some r) : Ct Try.prog 60 [(Rep.sl r_api_Extent 2).at a0, (Rep.sl r_api_Extent 2).at a1] [] (fun _ : Unit => (Rep.sl r_api_Extent 2).at r) (fun _ => []) := by
 refine Ct.mk Try.func60 rfl Try.ntmps60 (by simp) fun I R => ?_
 refine J.drop0 ?_
 unfold f_extent_Union at h
 refine J_seq ?_
 refine J_region ?_
 refine JLp (T_assign rfl) rfl (nofun) .none ?_
 refine JL_nil ?_
 refine KJ_nrm_then (KJ_J ?_)
 refine J_seq ?_
 refine J_region ?_
 refine JLp (T_move rfl) rfl (nofun) .none ?_
 refine JLp (T_move rfl) rfl (nofun) .none ?_
 replace h := bnd h; obtain ⟨x1, hx1, h⟩ := h
 refine JLe0 (T_call ⟨_, Try.func80, rfl, rfl⟩ (c_extent_sweep hx1) ⟨(.mk rfl), ⟨(.mk rfl), ⟨(.fn2 rfl ⟨_, Try.func81, rfl, rfl⟩ (fun _ _ _ h => c_extent_Union_1 h)), trivial⟩⟩⟩) rfl .none ?_
 replace h := bnd h; obtain ⟨x2, hx2, h⟩ := h
 refine JLe0 (T_call ⟨_, Try.func79, rfl, rfl⟩ (c_slices_Collect_api_Extent hx2) ⟨(.mk rfl), trivial⟩) rfl .none ?_
 refine JLp (T_assign rfl) rfl (nofun) .none ?_
 refine JL_nil ?_
 refine KJ_nrm_then (KJ_J ?_)
 refine J_ret ?_
 obtain rfl := inj h
 exact KJ_ret1' Try.results60 (.tmp (.mk rfl) Rv.nil) rfl rfl
end Go.Proofs.Ytogflgcngfghpaa
end
section
set_option maxHeartbeats 1000000
set_option linter.unusedVariables false
set_option linter.unusedSimpArgs false
namespace Go.Proofs.Ytogflgcngfghpaa
open Go.J
def Cov (l : List api_Extent) (x : Int) : Prop := ∃ e ∈ l, 0 < e.Count ∧ e.Start ≤ x ∧ x < e.Start + e.Count
def Sep (l : List api_Extent) : Prop := Inside l ∧ l.Pairwise fun e f => e.Start + e.Count < f.Start
theorem Sep.tail {e : api_Extent} {l : List api_Extent} (h : Sep (e :: l)) : Sep l := ⟨fun x hx => h.1 x (by simp [hx]), (List.pairwise_cons.1 h.2).2⟩
theorem Sep.unique : ∀ {l m : List api_Extent}, Sep l → Sep m → (∀ x, Cov l x ↔ Cov m x) → l = m
  | [], [], _, _, _ => rfl
  | [], f :: m, _, hm, h => by
    have := hm.1 f (by simp)
    obtain ⟨e, he, _⟩ := (h f.Start).2 ⟨f, by simp, by omega, by omega, by omega⟩
    simp at he
  | e :: l, [], hl, _, h => by
    have := hl.1 e (by simp)
    obtain ⟨f, hf, _⟩ := (h e.Start).1 ⟨e, by simp, by omega, by omega, by omega⟩
    simp at hf
  | e :: l, f :: m, hl, hm, h => by
    have he := hl.1 e (by simp)
    have hf := hm.1 f (by simp)
    have hel := (List.pairwise_cons.1 hl.2).1
    have hfm := (List.pairwise_cons.1 hm.2).1
    -- the first sector that is covered
    have s1 : ∀ x, Cov (e :: l) x → e.Start ≤ x := fun x ⟨g, hg, g1, g2, g3⟩ => by
      rcases List.mem_cons.1 hg with rfl | hg
      · exact g2
      · have := hel g hg; omega
    have s2 : ∀ x, Cov (f :: m) x → f.Start ≤ x := fun x ⟨g, hg, g1, g2, g3⟩ => by
      rcases List.mem_cons.1 hg with rfl | hg
      · exact g2
      · have := hfm g hg; omega
    have c1 : Cov (e :: l) e.Start := ⟨e, by simp, by omega, by omega, by omega⟩
    have c2 : Cov (f :: m) f.Start := ⟨f, by simp, by omega, by omega, by omega⟩
    have hs : e.Start = f.Start := by
      have a := s2 _ ((h _).1 c1)
      have b := s1 _ ((h _).2 c2)
      omega
    -- the first one behind it that isn't
    have n1 : ¬ Cov (e :: l) (e.Start + e.Count) := fun ⟨g, hg, g1, g2, g3⟩ => by
      rcases List.mem_cons.1 hg with rfl | hg
      · omega
      · have := hel g hg; omega
    have n2 : ¬ Cov (f :: m) (f.Start + f.Count) := fun ⟨g, hg, g1, g2, g3⟩ => by
      rcases List.mem_cons.1 hg with rfl | hg
      · omega
      · have := hfm g hg; omega
    have hc : e.Count = f.Count := by
      rcases Int.lt_trichotomy e.Count f.Count with hlt | heq | hgt
      · exact absurd ((h _).2 ⟨f, by simp, by omega, by omega, by omega⟩) n1
      · exact heq
      · exact absurd ((h (f.Start + f.Count)).1 ⟨e, by simp, by omega, by omega, by omega⟩) n2
    have hef : e = f := by cases e; cases f; simp at hs hc; simp [hs, hc]
    subst hef
    congr 1
    refine Sep.unique hl.tail hm.tail fun x => ⟨fun ⟨g, hg, g1, g2, g3⟩ => ?_, fun ⟨g, hg, g1, g2, g3⟩ => ?_⟩
    · obtain ⟨k, hk, k1, k2, k3⟩ := (h x).1 ⟨g, by simp [hg], g1, g2, g3⟩
      rcases List.mem_cons.1 hk with rfl | hk
      · have := hel g hg; omega
      · exact ⟨k, hk, k1, k2, k3⟩
    · obtain ⟨k, hk, k1, k2, k3⟩ := (h x).2 ⟨g, by simp [hg], g1, g2, g3⟩
      rcases List.mem_cons.1 hk with rfl | hk
      · have := hfm g hg; omega
      · exact ⟨k, hk, k1, k2, k3⟩
theorem sep_of_chk {size : Int} (hs : size ≤ 4096) : ∀ {l : List api_Extent} {nx : Int}, chkE size l nx = 0 → Sep l ∧ ∀ e ∈ l, nx ≤ e.Start
  | [], nx, _ => ⟨⟨fun e he => by simp at he, by simp⟩, fun e he => by simp at he⟩
  | e :: l, nx, h => by
    simp only [chkE] at h
    split at h
    · cases h
    · split at h
      · cases h
      · split at h
        · cases h
        · obtain ⟨⟨h1, h2⟩, h3⟩ := sep_of_chk hs h
          refine ⟨⟨fun x hx => ?_, List.pairwise_cons.2 ⟨fun x hx => by have := h3 x hx; omega, h2⟩⟩, fun x hx => ?_⟩
          · rcases List.mem_cons.1 hx with rfl | hx
            · omega
            · exact h1 x hx
          · rcases List.mem_cons.1 hx with rfl | hx
            · omega
            · have := h3 x hx; omega
theorem sep_of_check {l : List api_Extent} {size : Int} (h : checkE l size = 0) : Sep l := by
  unfold checkE at h
  split at h
  · cases h
  · exact (sep_of_chk (by omega) h).1
/-! ### The ends -/
def frS (e : api_Extent) : Int := max e.Start 0
def toS (e : api_Extent) : Int := min (e.Start + e.Count) 4096
def okS (e : api_Extent) : Bool := decide (0 < e.Count ∧ frS e < toS e)
theorem within_eq {e : api_Extent} (h : EI e) : ∃ f t, f_extent_within e = some (f, t, okS e) ∧ (okS e = true → f = frS e ∧ t = toS e) := by
  obtain ⟨⟨a1, a2⟩, ⟨a3, a4⟩⟩ := h
  unfold f_extent_within okS
  by_cases h1 : e.Count ≤ 0
  · exact ⟨0, 0, by simp [h1]; omega, by simp; omega⟩
  · refine ⟨frS e, toS e, ?_, fun _ => ⟨rfl, rfl⟩⟩
    have e0 : (decide (e.Count ≤ 0)) = false := by simp; omega
    rw [decide_eq_decide.2 (⟨fun h => h.2, fun h => ⟨by omega, h⟩⟩ : (0 < e.Count ∧ frS e < toS e) ↔ frS e < toS e)]
    simp only [e0, Bool.false_eq_true, if_false]
    by_cases h2 : e.Start < 0
    · have w := w64 (n := e.Start + e.Count) (by omega) (by omega)
      simp only [h2, decide_true, if_true, Option.bind_some, Fl.then_go, w]
      rfl
    · have w1 := w64 (n := 4096 - e.Start) (by omega) (by omega)
      have e2 : (decide (e.Start < 0)) = false := by simp; omega
      simp only [e2, Bool.false_eq_true, if_false, Option.bind_some, w1]
      by_cases h3 : e.Count < 4096 - e.Start
      · have w := w64 (n := e.Start + e.Count) (by omega) (by omega)
        simp only [h3, decide_true, if_true, Option.bind_some, Fl.then_go, w]
        rfl
      · have e3 : (decide (e.Count < 4096 - e.Start)) = false := by simp; omega
        simp only [e3, Bool.false_eq_true, if_false, Option.bind_some, Fl.then_go]
        have ht : toS e = 4096 := by unfold toS; omega
        have key : ∀ t : Int, t = 4096 → some (frS e, (4096 : Int), decide (frS e < 4096)) = some (frS e, t, decide (frS e < t)) := fun t h => by subst h; rfl
        exact key _ ht
def endE (i : Int) (e : api_Extent) : List extent_end := if okS e = true then [⟨frS e, i, 1⟩, ⟨toS e, i, -1⟩] else []
def endsL (i : Int) (l : List api_Extent) : List extent_end := l.flatMap (endE i)
theorem endsL_len (i : Int) (l : List api_Extent) : (endsL i l).length ≤ 2 * l.length := by
  induction l with
  | nil => simp [endsL]
  | cons e l ih =>
    have : endsL i (e :: l) = endE i e ++ endsL i l := by simp [endsL]
    rw [this, List.length_append, List.length_cons]
    have : (endE i e).length ≤ 2 := by unfold endE; split <;> simp
    omega
theorem ends_inner {i : Int} {l : List api_Extent} (h : ∀ e ∈ l, EI e) (s0 : List extent_end) (hlen : s0.length + 2 * l.length ≤ 1000000000) :
    rangeF (σ := List extent_end) (ρ := Rd (List extent_end) (List extent_end)) (fun i21 x25 s14 => (f_extent_within x25).bind fun x28 => ((if x28.2.2 = true then (app 24 s14 [(⟨x28.1, i, 1⟩ : extent_end), (⟨x28.2.1, i, (-1)⟩ : extent_end)]).bind fun x34 => some (Fl.go x34) else some (Fl.go s14) : Option (Fl (List extent_end) (Rd (List extent_end) (Rd (List extent_end) (List extent_end)))))).bind fun o30 => o30.then fun s32 => some (Rd.next s32)) l 0 s0 = some (.go (s0 ++ endsL i l)) := by
  have := rangeF_inv (ρ := Rd (List extent_end) (List extent_end)) (b := fun i21 (x25 : api_Extent) (s14 : List extent_end) => (f_extent_within x25).bind fun x28 => ((if x28.2.2 = true then (app 24 s14 [(⟨x28.1, i, 1⟩ : extent_end), (⟨x28.2.1, i, (-1)⟩ : extent_end)]).bind fun x34 => some (Fl.go x34) else some (Fl.go s14) : Option (Fl (List extent_end) (Rd (List extent_end) (Rd (List extent_end) (List extent_end)))))).bind fun o30 => o30.then fun s32 => some (Rd.next s32))
    (fun pre => s0 ++ endsL i pre) (l := l) (fun pre x suf hp => by
      obtain ⟨f, t, h1, h2⟩ := within_eq (h x (by rw [hp]; simp))
      have hpl : pre.length + 1 ≤ l.length := by rw [hp]; simp
      have hel := endsL_len i pre
      rw [h1]
      simp only [Option.bind_some]
      have e1 : endsL i (pre ++ [x]) = endsL i pre ++ endE i x := by simp [endsL]
      rw [e1]
      cases hok : okS x with
      | true =>
        obtain ⟨rfl, rfl⟩ := h2 hok
        simp only [if_true]
        rw [app_ok (by simp [lim]; omega) (by simp [lim]; omega)]
        simp [Fl.then, endE, hok]
      | false => simp [Fl.then, endE, hok])
  simpa [endsL] using this
def dep (i x : Int) (L : List extent_end) : Int := (L.map fun e => if e.list = i ∧ e.at_ ≤ x then e.step else 0).sum
theorem sum_perm {l m : List Int} (h : l.Perm m) : l.sum = m.sum := by
  induction h with
  | nil => rfl
  | cons x _ ih => simp [ih]
  | swap x y l => simp; omega
  | trans _ _ h1 h2 => exact h1.trans h2
theorem dep_perm {i x : Int} {L M : List extent_end} (h : L.Perm M) : dep i x L = dep i x M := sum_perm (h.map _)
theorem dep_append (i x : Int) (L M : List extent_end) : dep i x (L ++ M) = dep i x L + dep i x M := by simp [dep]
theorem dep_other {i j x : Int} (h : i ≠ j) (l : List api_Extent) : dep i x (endsL j l) = 0 := by
  induction l with
  | nil => rfl
  | cons e l ih =>
    have : endsL j (e :: l) = endE j e ++ endsL j l := by simp [endsL]
    rw [this, dep_append, ih]
    unfold endE
    split <;> simp [dep, Ne.symm h]
/-- How many extents of the list contain a sector. -/
theorem dep_self (i x : Int) (l : List api_Extent) : 0 ≤ dep i x (endsL i l) ∧ (0 < dep i x (endsL i l) ↔ 0 ≤ x ∧ x < 4096 ∧ Cov l x) := by
  induction l with
  | nil => simp [endsL, dep, Cov]
  | cons e l ih =>
    have e1 : endsL i (e :: l) = endE i e ++ endsL i l := by simp [endsL]
    have hc : Cov (e :: l) x ↔ (0 < e.Count ∧ e.Start ≤ x ∧ x < e.Start + e.Count) ∨ Cov l x := by simp [Cov]
    rw [e1, dep_append, hc]
    have : dep i x (endE i e) = if 0 ≤ x ∧ x < 4096 ∧ 0 < e.Count ∧ e.Start ≤ x ∧ x < e.Start + e.Count then 1 else 0 := by
      unfold endE okS frS toS
      split
      · rename_i h
        simp only [decide_eq_true_eq] at h
        simp only [dep, List.map_cons, List.map_nil, List.sum_cons, List.sum_nil, true_and]
        split <;> split <;> split <;> omega
      · rename_i h
        simp only [decide_eq_true_eq] at h
        rw [if_neg (by omega)]; rfl
    rw [this]
    split
    · rename_i h
      exact ⟨by omega, ⟨fun _ => ⟨h.1, h.2.1, .inl h.2.2⟩, fun _ => by omega⟩⟩
    · rename_i h
      refine ⟨by omega, ?_⟩
      rw [Int.zero_add, ih.2]
      constructor
      · exact fun ⟨h1, h2, h3⟩ => ⟨h1, h2, .inr h3⟩
      · rintro ⟨h1, h2, h3 | h3⟩
        · exact absurd ⟨h1, h2, h3⟩ h
        · exact ⟨h1, h2, h3⟩
def endsS (a b : List api_Extent) : List extent_end := endsL 0 a ++ endsL 1 b
theorem ends_eq {a b : List api_Extent} (ha : ∀ e ∈ a, EI e) (hb : ∀ e ∈ b, EI e) (hl : a.length + b.length ≤ 100000000) : f_extent_ends [a, b] = some (sortE cf96 (endsS a b)) := by
  unfold f_extent_ends
  have h1 := ends_inner (i := 0) ha [] (by simp; omega)
  have h2 := ends_inner (i := 1) hb (endsL 0 a) (by have := endsL_len 0 a; omega)
  simp only [rangeF]
  simp only [List.nil_append] at h1
  rw [h1]
  simp only [Option.bind_some, Fl.then_go]
  rw [show (0 : Int) + 1 = 1 from rfl, h2]
  simp only [Option.bind_some, Fl.then_go, f_slices_SortFunc_extent_end_extent_end]
  rfl
theorem sorted_at (L : List extent_end) : (sortE cf96 L).Pairwise fun a b => a.at_ ≤ b.at_ := by
  refine (sortE_sorted swo96 L).imp fun {a b} h => ?_
  rw [lt96] at h
  simpa using h
theorem ends_facts {a b : List api_Extent} : ∀ x ∈ endsS a b, (x.list = 0 ∨ x.list = 1) ∧ (x.step = 1 ∨ x.step = -1) ∧ 0 ≤ x.at_ ∧ x.at_ ≤ 4096 := fun x hx => by
  have key : ∀ (i : Int) (l : List api_Extent), x ∈ endsL i l → x.list = i ∧ (x.step = 1 ∨ x.step = -1) ∧ 0 ≤ x.at_ ∧ x.at_ ≤ 4096 := fun i l hx => by
    obtain ⟨e, he, hx⟩ := List.mem_flatMap.1 hx
    unfold endE okS frS toS at hx
    split at hx
    · rename_i h
      simp only [decide_eq_true_eq] at h
      simp at hx
      rcases hx with rfl | rfl
      · exact ⟨rfl, .inl rfl, by simp; omega, by simp; omega⟩
      · exact ⟨rfl, .inr rfl, by simp; omega, by simp; omega⟩
    · simp at hx
  rcases List.mem_append.1 hx with h | h
  · have := key 0 a h; exact ⟨.inl this.1, this.2⟩
  · have := key 1 b h; exact ⟨.inr this.1, this.2⟩
theorem dep_all (i : Int) (a b : List api_Extent) (x : Int) (hx : 4096 ≤ x) (hi : i = 0 ∨ i = 1) : dep i x (endsS a b) = 0 := by
  unfold endsS
  rw [dep_append]
  rcases hi with rfl | rfl
  · rw [dep_other (by omega) b]
    have := dep_self 0 x a
    omega
  · rw [dep_other (by omega) a]
    have := dep_self 1 x b
    omega
end Go.Proofs.Ytogflgcngfghpaa
end
section
set_option maxHeartbeats 4000000
set_option linter.unusedVariables false
set_option linter.unusedSimpArgs false
namespace Go.Proofs.Ytogflgcngfghpaa
open Go.J
def f_extent_Count (a0 : List api_Extent) : Option (Int) :=
 (f_extent_Union a0 []).bind fun x1 => (rangeF (σ := Int) (ρ := Int) (fun i9 x13 s2 => some (Rd.next (IntKind.i64.wrap (s2 + x13.Count)))) x1 0 0).bind fun o4 => o4.then fun s2 => some s2
theorem c_extent_Count {a0 : List api_Extent} {r : Int} (h : f_extent_Count a0 = some r) : Ct Try.prog 45 [(Rep.sl r_api_Extent 2).at a0] [] (fun _ : Unit => (Rep.int .i64).at r) (fun _ => []) := by
 refine Ct.mk Try.func45 rfl Try.ntmps45 (by simp) fun I R => ?_
 refine J.drop0 ?_
 unfold f_extent_Count at h
 refine J_seq ?_
 refine J_region ?_
 refine JLp (T_assign rfl) rfl (nofun) .none ?_
 refine JL_nil ?_
 refine KJ_nrm_then (KJ_J ?_)
 refine J_seq ?_
 refine J_region ?_
 refine JLp (T_assign rfl) rfl (nofun) .none ?_
 refine JL_nil ?_
 refine KJ_nrm_then (KJ_J ?_)
 refine J_seq ?_
 refine J_seq ?_
 refine J_region ?_
 refine JLp (T_move rfl) rfl (nofun) .none ?_
 replace h := bnd h; obtain ⟨x1, hx1, h⟩ := h
 refine JLe0 (T_call ⟨_, Try.func60, rfl, rfl⟩ (c_extent_Union hx1) ⟨(.mk rfl), ⟨(.nilc rfl), trivial⟩⟩) rfl .none ?_
 refine JLp (T_len (ρ := r_api_Extent) sl39 (.mk rfl)) rfl (nofun) .none ?_
 refine JLp (T_move rfl) rfl (nofun) .none ?_
 refine JL_nil ?_
 refine KJ_nrm_then (KJ_J ?_)
 replace h := bnd h; obtain ⟨o4, ho5, h⟩ := h
 refine J_cuto o4 (fun (s2 : Int) (g3 : Unit) => [(3, (Rep.int .i64).at s2)]) (fun s2 g3 => R) ?_ ?_
 ·refine J_block ?_
  refine J_lim (ρ := r_api_Extent) (n := 2) (l := x1) (x := .tmp 7) (.mk rfl) fun hl => ?_
  refine J_range ho5 hl (fun i9 (s2 : Int) (g3 : Unit) => [(7, (Rep.sl r_api_Extent 2).at x1), (8, (Rep.int .i64).at (x1.length : Int)), (3, (Rep.int .i64).at s2), (9, (Rep.int .i64).at i9)]) (fun i9 s2 g3 => R) () (.cons rfl (.cons rfl (.cons rfl (.cons rfl (.nil _))))) rfl ?_ ?_
  ·intro s2 g3 ho5n
   refine J_seq (J_region (JLp (T_lss rfl rfl) rfl (nofun) .none (JL_nil (KJ_nrm_then (KJ_J ?_)))))
   refine J_seq (J_test rfl (fun hp => absurd (of_decide_eq_true hp) (by omega)) (fun _ => J_exit (KJ_exit_then (KJ_exit_then (KJ_exit_here (KJ_nrm_kq ?_))))))
   exact KJ_ot s2 g3 ho5n (.cons rfl (.nil _)) rfl
  ·intro i9 x13 s2 g3 st8 hi10 hj11 hx14 hw12 hb6 hf7
   refine J_seq (J_region (JLp (T_lss rfl rfl) rfl (nofun) .none (JL_nil (KJ_nrm_then (KJ_J ?_)))))
   refine J_seq (J_test rfl (fun _ => J_skip (KJ_nrm_then (KJ_J ?_))) (fun hp => absurd hj11 (of_decide_eq_false hp)))
   refine J_seq ?_
   refine J_block ?_
   refine J_seq ?_
   refine J_region ?_
   refine JLp (T_ix sl39 (.mk rfl) rfl hx14) rfl (nofun) .none ?_
   refine JLp (T_load ty62 rfl) rfl (nofun) .none ?_
   refine JLa (T_alloc z62 lay_api_Extent) rfl .none fun b15 => ?_
   refine JLn1 (T_store ty62 rfl (.mk rfl) (SetF.self lay_api_Extent)) .none ?_
   refine JL_nil ?_
   refine KJ_nrm_then (KJ_J ?_)
   refine J_region ?_
   refine JLp (T_move rfl) rfl (nofun) .none ?_
   refine JLp (T_faddr fo62_1 rfl) rfl (nofun) .none ?_
   refine JLp (T_loadb ty3 rfl hf_api_Extent_Count) rfl B0 .none ?_
   refine JLp (T_add rfl rfl) rfl (nofun) .none ?_
   refine JLp (T_assign rfl) rfl (nofun) .none ?_
   refine JL_nil ?_
   refine KJ_nrm_blk ?_
   refine KJ_nrm_then (KJ_J ?_)
   refine J_region ?_
   refine JLp (T_addw rfl rfl hw12) rfl (nofun) .none ?_
   refine JLp (T_move rfl) rfl (nofun) .none ?_
   refine JL_nil ?_
   refine KJ_nrm_then ?_
   refine KJ.drop1 ?_
   exact KJ_nx (IntKind.i64.wrap (s2 + x13.Count)) () (inj hb6) (.cons rfl (.cons rfl (.cons rfl (.cons rfl (.nil _))))) rfl
 ·intro s2 g3 hs
  subst hs
  replace h := thn h
  refine KJ_nrm_then (KJ_J ?_)
  refine J_seq ?_
  refine J_region ?_
  refine JLp (T_move rfl) rfl (nofun) .none ?_
  refine JLp (T_assign rfl) rfl (nofun) .none ?_
  refine JL_nil ?_
  refine KJ_nrm_then (KJ_J ?_)
  refine J_ret ?_
  obtain rfl := inj h
  exact KJ_ret1' Try.results45 (.tmp (.mk rfl) Rv.nil) rfl rfl
end Go.Proofs.Ytogflgcngfghpaa
end
