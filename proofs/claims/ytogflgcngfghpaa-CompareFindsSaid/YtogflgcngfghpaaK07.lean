/- A part of the proof: The sweep's loop, and what Union yields. No condition. -/
import Derived.Test.YtogflgcngfghpaaK06
section
set_option maxHeartbeats 1000000
set_option linter.unusedVariables false
set_option linter.unusedSimpArgs false
namespace Go.Proofs.Ytogflgcngfghpaa
open Go.J
theorem dep_congr {i x y : Int} {L : List extent_end} (h : ∀ e ∈ L, e.at_ ≤ x ↔ e.at_ ≤ y) : dep i x L = dep i y L := by
  unfold dep
  congr 1
  refine List.map_congr_left fun e he => ?_
  have := h e he
  by_cases h1 : e.list = i ∧ e.at_ ≤ x
  · rw [if_pos h1, if_pos ⟨h1.1, this.1 h1.2⟩]
  · rw [if_neg h1, if_neg (fun h2 => h1 ⟨h2.1, this.2 h2.2⟩)]
theorem dep_zero {i x : Int} {L : List extent_end} (h : ∀ e ∈ L, x < e.at_) : dep i x L = 0 := by
  induction L with
  | nil => rfl
  | cons e L ih =>
    have h1 := h e (by simp)
    have h2 := ih (fun y hy => h y (by simp [hy]))
    unfold dep at h2 ⊢
    rw [List.map_cons, List.sum_cons, h2, if_neg (by omega)]; rfl
theorem dep_bd {i x : Int} {L : List extent_end} (h : ∀ e ∈ L, e.step = 1 ∨ e.step = -1) : -(L.length : Int) ≤ dep i x L ∧ dep i x L ≤ L.length := by
  induction L with
  | nil => simp [dep]
  | cons e L ih =>
    have h1 := h e (by simp)
    have h2 := ih (fun y hy => h y (by simp [hy]))
    unfold dep at h2 ⊢
    rw [List.map_cons, List.sum_cons, List.length_cons]
    split <;> omega
section
variable (L : List extent_end) (k : Bool → Bool → Option Bool) (kp : Bool → Bool → Bool)
def KS (x : Int) : Prop := kp (decide (0 < dep 0 x L)) (decide (0 < dep 1 x L)) = true
def nextT : List extent_end → Int
  | [] => 5000
  | h :: _ => h.at_
structure SwInv (suf : List extent_end) (start : Int) (inside : Bool) (ys : List api_Extent) : Prop where
  cov : ∀ x, x < nextT suf → (Cov ys x ∨ (inside = true ∧ start ≤ x) ↔ KS L kp x)
  sep : Sep ys
  ins : inside = true → 0 ≤ start ∧ start < nextT suf ∧ ∀ e ∈ ys, e.Start + e.Count < start
  out : ∀ e ∈ ys, e.Start + e.Count < nextT suf
def swBody (i15 : Int) (x19 : extent_end) (s3 : Int × Bool × List Int) : Option (List api_Extent × Rd (Int × Bool × List Int) Unit) :=
  (inB 2 x19.list).bind fun x22 => (idx s3.2.2 x19.list).bind fun x23 => (inB 2 x19.list).bind fun x24 => (if (decide ((i15 + 1) < (L.length : Int))) = true then (idx L (i15 + 1)).bind fun x25 => some (decide (x25.at_ = x19.at_)) else some false).bind fun c26 => if c26 = true then some ([], Rd.next (s3.1, s3.2.1, setI s3.2.2 x19.list (IntKind.i64.wrap (x23 + x19.step)))) else (inB 2 0).bind fun x28 => (idx (setI s3.2.2 x19.list (IntKind.i64.wrap (x23 + x19.step))) 0).bind fun x29 => (inB 2 1).bind fun x30 => (idx (setI s3.2.2 x19.list (IntKind.i64.wrap (x23 + x19.step))) 1).bind fun x31 => (k (decide (0 < x29)) (decide (0 < x31))).bind fun x32 => (if x32 = true then some (!s3.2.1) else some false).bind fun c33 => if c33 = true then if (!x32) = true then if s3.2.1 = true then emitP (⟨x19.at_, IntKind.i64.wrap (x19.at_ - x19.at_)⟩ : api_Extent) (some ([], Rd.next (x19.at_, x32, setI s3.2.2 x19.list (IntKind.i64.wrap (x23 + x19.step))))) else some ([], Rd.next (x19.at_, x32, setI s3.2.2 x19.list (IntKind.i64.wrap (x23 + x19.step)))) else some ([], Rd.next (x19.at_, x32, setI s3.2.2 x19.list (IntKind.i64.wrap (x23 + x19.step)))) else if (!x32) = true then if s3.2.1 = true then emitP (⟨s3.1, IntKind.i64.wrap (x19.at_ - s3.1)⟩ : api_Extent) (some ([], Rd.next (s3.1, x32, setI s3.2.2 x19.list (IntKind.i64.wrap (x23 + x19.step))))) else some ([], Rd.next (s3.1, x32, setI s3.2.2 x19.list (IntKind.i64.wrap (x23 + x19.step)))) else some ([], Rd.next (s3.1, x32, setI s3.2.2 x19.list (IntKind.i64.wrap (x23 + x19.step))))
variable {L k kp}
/-- One step of the loop, told plainly. -/
theorem swBody_eq (hk : ∀ p q, k p q = some (kp p q)) {pre suf : List extent_end} {h : extent_end} (hL : L = pre ++ h :: suf) (hf : ∀ x ∈ L, (x.list = 0 ∨ x.list = 1) ∧ (x.step = 1 ∨ x.step = -1) ∧ 0 ≤ x.at_ ∧ x.at_ ≤ 4096) (hlen : L.length ≤ 1000000000) (start : Int) (hst : 0 ≤ start) (hst2 : start ≤ 5000) (inside : Bool) :
    swBody L k pre.length h (start, inside, [dep 0 5000 pre, dep 1 5000 pre]) =
      if nextT suf = h.at_ ∧ suf ≠ [] then some ([], .next (start, inside, [dep 0 5000 (pre ++ [h]), dep 1 5000 (pre ++ [h])]))
      else
        let now := kp (decide (0 < dep 0 5000 (pre ++ [h]))) (decide (0 < dep 1 5000 (pre ++ [h])))
        some (if inside = true ∧ now = false then [⟨start, h.at_ - start⟩] else [], .next (if inside = false ∧ now = true then h.at_ else start, now, [dep 0 5000 (pre ++ [h]), dep 1 5000 (pre ++ [h])])) := by
  obtain ⟨f1, f2, f3, f4⟩ := hf h (by rw [hL]; simp)
  have hpre : ∀ e ∈ pre, e.step = 1 ∨ e.step = -1 := fun e he => (hf e (by rw [hL]; simp [he])).2.1
  have hpl : pre.length ≤ 1000000000 := by rw [hL] at hlen; simp at hlen; omega
  have b0 := dep_bd (i := 0) (x := 5000) hpre
  have b1 := dep_bd (i := 1) (x := 5000) hpre
  have s0 : dep 0 5000 (pre ++ [h]) = if h.list = 0 then dep 0 5000 pre + h.step else dep 0 5000 pre := by
    rw [dep_append]
    show _ + dep 0 5000 [h] = _
    simp only [dep, List.map_cons, List.map_nil, List.sum_cons, List.sum_nil]
    split <;> split <;> omega
  have s1 : dep 1 5000 (pre ++ [h]) = if h.list = 1 then dep 1 5000 pre + h.step else dep 1 5000 pre := by
    rw [dep_append]
    show _ + dep 1 5000 [h] = _
    simp only [dep, List.map_cons, List.map_nil, List.sum_cons, List.sum_nil]
    split <;> split <;> omega
  have hdep : ∃ d, idx [dep 0 5000 pre, dep 1 5000 pre] h.list = some d ∧ setI [dep 0 5000 pre, dep 1 5000 pre] h.list (IntKind.i64.wrap (d + h.step)) = [dep 0 5000 (pre ++ [h]), dep 1 5000 (pre ++ [h])] := by
    rcases f1 with f1 | f1
    · refine ⟨dep 0 5000 pre, by rw [f1]; rfl, ?_⟩
      rw [s0, s1, f1, if_pos rfl, if_neg (by omega), w64 (by omega) (by omega)]; rfl
    · refine ⟨dep 1 5000 pre, by rw [f1]; rfl, ?_⟩
      rw [s0, s1, f1, if_neg (by omega), if_pos rfl, w64 (by omega) (by omega)]; rfl
  obtain ⟨d, hd1, hd2⟩ := hdep
  unfold swBody
  have hin : inB 2 h.list = some () := by unfold inB; rw [if_pos (by omega)]
  simp only [hin, Option.bind_some, hd1, hd2]
  have hnx : ((if (decide (((pre.length : Int) + 1) < (L.length : Int))) = true then (idx L ((pre.length : Int) + 1)).bind fun x25 => some (decide (x25.at_ = h.at_)) else some false) : Option Bool) = some (decide (nextT suf = h.at_ ∧ suf ≠ [])) := by
    cases suf with
    | nil =>
      rw [if_neg (by rw [hL]; simp)]
      simp
    | cons h' suf =>
      rw [if_pos (by rw [hL]; simp; omega)]
      have : idx L ((pre.length : Int) + 1) = some h' := by
        rw [hL, show pre ++ h :: h' :: suf = (pre ++ [h]) ++ h' :: suf by simp]
        have := idx_app (pre ++ [h]) h' suf
        simpa using this
      rw [this]
      simp [nextT]
  rw [hnx]
  simp only [Option.bind_some]
  by_cases hc : nextT suf = h.at_ ∧ suf ≠ []
  · simp only [hc, not_false_eq_true, and_self, decide_true, if_true, ne_eq]
  · rw [if_neg (by simpa using hc), if_neg hc]
    have e0 : inB 2 0 = some () := rfl
    have e1 : inB 2 1 = some () := rfl
    simp only [e0, e1, Option.bind_some]
    rw [show idx [dep 0 5000 (pre ++ [h]), dep 1 5000 (pre ++ [h])] 0 = some (dep 0 5000 (pre ++ [h])) from rfl, show idx [dep 0 5000 (pre ++ [h]), dep 1 5000 (pre ++ [h])] 1 = some (dep 1 5000 (pre ++ [h])) from rfl]
    simp only [Option.bind_some, hk]
    have w := w64 (n := h.at_ - start) (by omega) (by omega)
    generalize kp (decide (0 < dep 0 5000 (pre ++ [h]))) (decide (0 < dep 1 5000 (pre ++ [h]))) = now
    cases now <;> cases inside <;> simp [emitP, w]
theorem sw_loop (hk : ∀ p q, k p q = some (kp p q)) (hf : ∀ x ∈ L, (x.list = 0 ∨ x.list = 1) ∧ (x.step = 1 ∨ x.step = -1) ∧ 0 ≤ x.at_ ∧ x.at_ ≤ 4096) (hso : L.Pairwise fun a b => a.at_ ≤ b.at_) (hlen : L.length ≤ 1000000000) :
    ∀ (suf pre : List extent_end) (start : Int) (inside : Bool) (ys : List api_Extent), L = pre ++ suf → 0 ≤ start → start ≤ 5000 → SwInv L kp suf start inside ys →
      ∃ zs st ins' d, rangeW (σ := Int × Bool × List Int) (ρ := Unit) (β := api_Extent) (swBody L k) suf pre.length (start, inside, [dep 0 5000 pre, dep 1 5000 pre]) = some (zs, .go (st, ins', d)) ∧ SwInv L kp [] st ins' (ys ++ zs)
  | [], pre, start, inside, ys, hL, _, _, hI => ⟨[], start, inside, _, by rw [rangeW], by simpa using hI⟩
  | h :: suf, pre, start, inside, ys, hL, hst, hst2, hI => by
    have hb := swBody_eq hk hL hf hlen start hst hst2 inside
    have hhf := hf h (by rw [hL]; simp)
    have hL' : L = (pre ++ [h]) ++ suf := by rw [hL]; simp
    have e1 : (((pre ++ [h]).length : Nat) : Int) = (pre.length : Int) + 1 := by simp
    have hT : nextT (h :: suf) = h.at_ := rfl
    by_cases hc : nextT suf = h.at_ ∧ suf ≠ []
    · rw [if_pos hc] at hb
      obtain ⟨zs, st, ins', d, h1, h2⟩ := sw_loop hk hf hso hlen suf (pre ++ [h]) start inside ys hL' hst hst2 ⟨by rw [hc.1]; exact hI.cov, hI.sep, by rw [hc.1]; exact hI.ins, by rw [hc.1]; exact hI.out⟩
      refine ⟨zs, st, ins', d, ?_, h2⟩
      rw [rangeW, hb]
      rw [e1] at h1
      simp [stepW, h1]
    · rw [if_neg hc] at hb
      -- what lies where
      have hpair := List.pairwise_append.1 (hL' ▸ hso)
      have hle : ∀ e ∈ pre ++ [h], e.at_ ≤ h.at_ := fun e he => by
        rcases List.mem_append.1 he with he | he
        · exact (List.pairwise_append.1 (hL ▸ hso)).2.2 e he h (by simp)
        · obtain rfl := List.mem_singleton.1 he; omega
      have hgt : nextT suf ≤ 5000 ∧ h.at_ < nextT suf ∧ ∀ e ∈ suf, nextT suf ≤ e.at_ := by
        cases suf with
        | nil => exact ⟨by simp [nextT], by simp [nextT]; omega, fun e he => by simp at he⟩
        | cons h' suf =>
          have h3 := hf h' (by rw [hL]; simp)
          have h4 := hpair.2.2 h (by simp) h' (by simp)
          refine ⟨by simp [nextT]; omega, ?_, fun e he => ?_⟩
          · simp [nextT] at hc ⊢; omega
          · rcases List.mem_cons.1 he with rfl | he
            · exact Int.le_refl _
            · exact (List.pairwise_cons.1 hpair.2.1).1 e he
      have hdx : ∀ i x, h.at_ ≤ x → x < nextT suf → dep i x L = dep i 5000 (pre ++ [h]) := fun i x hx1 hx2 => by
        rw [hL', dep_append, dep_zero (L := suf) (fun e he => by have := hgt.2.2 e he; omega), Int.add_zero]
        exact dep_congr fun e he => by have := hle e he; omega
      have hK : ∀ x, h.at_ ≤ x → x < nextT suf → (KS L kp x ↔ kp (decide (0 < dep 0 5000 (pre ++ [h]))) (decide (0 < dep 1 5000 (pre ++ [h]))) = true) := fun x hx1 hx2 => by
        unfold KS; rw [hdx 0 x hx1 hx2, hdx 1 x hx1 hx2]
      generalize hnow : kp (decide (0 < dep 0 5000 (pre ++ [h]))) (decide (0 < dep 1 5000 (pre ++ [h]))) = now at hb hK
      have hcov := hI.cov
      have hout := hI.out
      have hins := hI.ins
      rw [hT] at hcov hout hins
      have hys : ∀ x, Cov ys x → x < h.at_ := fun x ⟨e, he, e1, e2, e3⟩ => by have := hout e he; omega
      have inv' : SwInv L kp suf (if inside = false ∧ now = true then h.at_ else start) now (ys ++ if inside = true ∧ now = false then [⟨start, h.at_ - start⟩] else []) := by
        cases inside with
        | false =>
          simp only [Bool.false_eq_true, false_and, if_false, List.append_nil, true_and]
          refine ⟨fun x hx => ?_, hI.sep, fun hn => ?_, fun e he => by have := hout e he; omega⟩
          · rcases Int.lt_or_le x h.at_ with hlt | hge
            · rw [← hcov x hlt]
              constructor
              · rintro (hcx | ⟨hn, hs⟩)
                · exact .inl hcx
                · rw [if_pos hn] at hs; omega
              · rintro (hcx | ⟨hf', _⟩)
                · exact .inl hcx
                · cases hf'
            · rw [hK x hge hx]
              constructor
              · rintro (hcx | ⟨hn, _⟩)
                · have := hys x hcx; omega
                · exact hn
              · intro hn; exact .inr ⟨hn, by rw [if_pos hn]; exact hge⟩
          · rw [if_pos hn]
            exact ⟨hhf.2.2.1, hgt.2.1, fun e he => hout e he⟩
        | true =>
          obtain ⟨i1, i2, i3⟩ := hins rfl
          simp only [Bool.true_eq_false, false_and, if_false, true_and]
          cases now with
          | true =>
            simp only [Bool.true_eq_false, if_false, List.append_nil]
            refine ⟨fun x hx => ?_, hI.sep, fun _ => ⟨i1, by omega, i3⟩, fun e he => by have := hout e he; omega⟩
            rcases Int.lt_or_le x h.at_ with hlt | hge
            · exact hcov x hlt
            · rw [hK x hge hx]
              exact ⟨fun _ => rfl, fun _ => .inr ⟨rfl, by omega⟩⟩
          | false =>
            simp only [if_true]
            refine ⟨fun x hx => ?_, ⟨fun e he => ?_, ?_⟩, fun hn => (by cases hn), fun e he => ?_⟩
            · have hcc : Cov (ys ++ [⟨start, h.at_ - start⟩]) x ↔ Cov ys x ∨ (start ≤ x ∧ x < h.at_) := by
                constructor
                · rintro ⟨e, he, e1, e2, e3⟩
                  rcases List.mem_append.1 he with he | he
                  · exact .inl ⟨e, he, e1, e2, e3⟩
                  · obtain rfl := List.mem_singleton.1 he
                    simp at e1 e2 e3
                    exact .inr ⟨by omega, by omega⟩
                · rintro (⟨e, he, e1, e2, e3⟩ | ⟨e1, e2⟩)
                  · exact ⟨e, by simp [he], e1, e2, e3⟩
                  · exact ⟨⟨start, h.at_ - start⟩, by simp, by simp; omega, by simp; omega, by simp; omega⟩
              rw [hcc]
              rcases Int.lt_or_le x h.at_ with hlt | hge
              · rw [← hcov x hlt]
                constructor
                · rintro ((hcx | ⟨hs, _⟩) | ⟨hf', _⟩)
                  · exact .inl hcx
                  · exact .inr ⟨rfl, hs⟩
                  · cases hf'
                · rintro (hcx | ⟨_, hs⟩)
                  · exact .inl (.inl hcx)
                  · exact .inl (.inr ⟨hs, hlt⟩)
              · rw [hK x hge hx]
                constructor
                · rintro ((hcx | ⟨_, hs⟩) | ⟨hf', _⟩)
                  · have := hys x hcx; omega
                  · omega
                  · cases hf'
                · intro hf'; cases hf'
            · rcases List.mem_append.1 he with he | he
              · exact hI.sep.1 e he
              · obtain rfl := List.mem_singleton.1 he
                simp; omega
            · rw [List.pairwise_append]
              refine ⟨hI.sep.2, by simp, fun a ha b hb' => ?_⟩
              obtain rfl := List.mem_singleton.1 hb'
              exact i3 a ha
            · rcases List.mem_append.1 he with he | he
              · have := hout e he; omega
              · obtain rfl := List.mem_singleton.1 he
                simp; omega
      obtain ⟨zs, st, ins', d, h1, h2⟩ := sw_loop hk hf hso hlen suf (pre ++ [h]) _ now _ hL' (by split <;> omega) (by split <;> omega) inv'
      refine ⟨(if inside = true ∧ now = false then [⟨start, h.at_ - start⟩] else []) ++ zs, st, ins', d, ?_, by rw [← List.append_assoc]; exact h2⟩
      rw [rangeW, hb]
      rw [e1] at h1
      simp [stepW, h1]
end
theorem sweep_eq {a b : List api_Extent} {k : Bool → Bool → Option Bool} {kp : Bool → Bool → Bool} (hk : ∀ p q, k p q = some (kp p q)) (h0 : kp false false = false) (ha : ∀ e ∈ a, EI e) (hb : ∀ e ∈ b, EI e) (hl : a.length + b.length ≤ 100000000) :
    ∃ M, f_extent_sweep a b k = some M ∧ Sep M ∧ ∀ x, Cov M x ↔ kp (decide (0 < dep 0 x (endsS a b))) (decide (0 < dep 1 x (endsS a b))) = true := by
  have hperm := sortE_perm swo96 (endsS a b)
  have hlen : (sortE cf96 (endsS a b)).length ≤ 1000000000 := by
    rw [hperm.length_eq]
    have h1 := endsL_len 0 a
    have h2 := endsL_len 1 b
    simp only [endsS, List.length_append]
    omega
  have hf : ∀ x ∈ sortE cf96 (endsS a b), (x.list = 0 ∨ x.list = 1) ∧ (x.step = 1 ∨ x.step = -1) ∧ 0 ≤ x.at_ ∧ x.at_ ≤ 4096 := fun x hx => ends_facts x (hperm.mem_iff.1 hx)
  have hd : ∀ i x, dep i x (sortE cf96 (endsS a b)) = dep i x (endsS a b) := fun i x => dep_perm hperm
  have hso := sorted_at (endsS a b)
  generalize hL : sortE cf96 (endsS a b) = L at *
  have hinv : SwInv L kp L 0 false [] := by
    refine ⟨fun x hx => ?_, ⟨fun e he => by simp at he, by simp⟩, fun h => (by cases h), fun e he => by simp at he⟩
    have : ∀ i, dep i x L = 0 := fun i => dep_zero fun e he => by
      cases L with
      | nil => simp at he
      | cons h L =>
        simp only [nextT] at hx
        rcases List.mem_cons.1 he with rfl | he
        · exact hx
        · have := (List.pairwise_cons.1 hso).1 e he; omega
    unfold KS
    rw [this 0, this 1]
    simp [Cov, h0]
  obtain ⟨zs, st, ins', d, h1, h2⟩ := sw_loop hk hf hso hlen L [] 0 false [] rfl (by omega) (by omega) hinv
  simp only [List.nil_append] at h2
  have hout : ins' = false := by
    cases ins' with
    | false => rfl
    | true =>
      obtain ⟨i1, i2, i3⟩ := h2.ins rfl
      have := (h2.cov 4999 (by simp [nextT])).1 (.inr ⟨rfl, by simp [nextT] at i2; omega⟩)
      unfold KS at this
      rw [hd, hd, dep_all 0 a b 4999 (by omega) (.inl rfl), dep_all 1 a b 4999 (by omega) (.inr rfl)] at this
      simp [h0] at this
  subst hout
  refine ⟨zs, ?_, h2.sep, fun x => ?_⟩
  · unfold f_extent_sweep f_extent_sweep_1
    rw [ends_eq ha hb hl, hL]
    have h1 : rangeW (σ := Int × Bool × List Int) (ρ := Unit) (β := api_Extent) (swBody L k) L 0 (0, false, List.replicate 2 0) = some (zs, .go (st, false, d)) := h1
    unfold swBody at h1
    simp only [Option.bind_some]
    rw [h1]
    simp [thenP]
  · rcases Int.lt_or_le x 5000 with hlt | hge
    · have := h2.cov x (by simpa [nextT] using hlt)
      unfold KS at this
      rw [hd, hd] at this
      rw [← this]
      simp
    · rw [dep_all 0 a b x (by omega) (.inl rfl), dep_all 1 a b x (by omega) (.inr rfl)]
      simp only [Int.lt_irrefl, decide_false, h0]
      constructor
      · rintro ⟨e, he, e1, e2, e3⟩
        have := h2.out e he
        simp only [nextT] at this
        omega
      · intro h; cases h
theorem collect_eq {l : List api_Extent} (hl : l.length ≤ 1000000000) : f_slices_Collect_api_Extent l = some l := by
  unfold f_slices_Collect_api_Extent f_slices_AppendSeq_api_Extent_api_Extent
  have := eachN_inv (b := fun (x4 : api_Extent) (s2 : List api_Extent) => (app 16 s2 [x4]).bind fun x10 => some (Rd.next x10)) id (l := l) (fun pre x suf hp => by
    have : pre.length ≤ 1000000000 := by rw [hp] at hl; simp at hl; omega
    simp only [id]
    rw [app_ok (by simp [lim]; omega) (by simp [lim]; omega)]; rfl)
  simp only [id] at this
  rw [this]; rfl
/-- How many extents a canonical list can have. -/
theorem sep_len : ∀ {l : List api_Extent} {lo : Int}, Sep l → (∀ e ∈ l, lo ≤ e.Start) → 0 ≤ lo → lo ≤ 4096 → (l.length : Int) ≤ 4096 - lo
  | [], lo, _, _, h0, h1 => by simp; omega
  | e :: l, lo, h, hlo, h0, h1 => by
    have he := h.1 e (by simp)
    have h2 := hlo e (by simp)
    have := sep_len (lo := e.Start + e.Count) h.tail (fun x hx => by have := (List.pairwise_cons.1 h.2).1 x hx; omega) (by omega) (by omega)
    simp only [List.length_cons]
    omega
/-- The set that a list of extents stands for, between 0 and 4096. -/
def CovIn (l : List api_Extent) (x : Int) : Prop := 0 ≤ x ∧ x < 4096 ∧ Cov l x
theorem dep_cov (a b : List api_Extent) (x : Int) : (0 < dep 0 x (endsS a b) ↔ CovIn a x) ∧ (0 < dep 1 x (endsS a b) ↔ CovIn b x) := by
  unfold endsS
  rw [dep_append, dep_append, dep_other (i := 0) (j := 1) (by omega), dep_other (i := 1) (j := 0) (by omega), Int.add_zero, Int.zero_add]
  exact ⟨(dep_self 0 x a).2, (dep_self 1 x b).2⟩
theorem union_eq {a b : List api_Extent} (ha : ∀ e ∈ a, EI e) (hb : ∀ e ∈ b, EI e) (hl : a.length + b.length ≤ 100000000) : ∃ M, f_extent_Union a b = some M ∧ Sep M ∧ ∀ x, Cov M x ↔ CovIn a x ∨ CovIn b x := by
  obtain ⟨M, h1, h2, h3⟩ := sweep_eq (k := f_extent_Union_1) (kp := fun p q => p || q) (fun p q => by cases p <;> simp [f_extent_Union_1]) rfl ha hb hl
  refine ⟨M, ?_, h2, fun x => ?_⟩
  · unfold f_extent_Union
    rw [h1]
    simp only [Option.bind_some]
    rw [collect_eq (by have := sep_len (lo := 0) h2 (fun e he => (h2.1 e he).2.1) (by omega) (by omega); omega)]
    rfl
  · rw [h3 x]
    obtain ⟨c1, c2⟩ := dep_cov a b x
    simp [c1, c2]
theorem EI_of_inside {l : List api_Extent} (h : Inside l) : ∀ e ∈ l, EI e := fun e he => by
  have := h e he
  exact ⟨⟨by omega, by omega⟩, ⟨by omega, by omega⟩⟩
theorem covIn_of_inside {l : List api_Extent} (h : Inside l) (x : Int) : CovIn l x ↔ Cov l x :=
  ⟨fun h => h.2.2, fun ⟨e, he, e1, e2, e3⟩ => by have := h e he; exact ⟨by omega, by omega, e, he, e1, e2, e3⟩⟩
/-- A list of extents within the limits, united with nothing: the canonical list of its sectors. -/
theorem union_nil {l m : List api_Extent} (h : Inside l) (hl : l.length ≤ 10000000) (hm : Sep m) (hc : ∀ x, Cov m x ↔ Cov l x) : f_extent_Union l [] = some m := by
  obtain ⟨M, h1, h2, h3⟩ := union_eq (a := l) (b := []) (EI_of_inside h) (fun e he => by simp at he) (by simp; omega)
  have : M = m := Sep.unique h2 hm fun x => by
    rw [h3, hc, covIn_of_inside h]
    simp [CovIn, Cov]
  rw [h1, this]
theorem count_eq {l : List api_Extent} (h : Sep l) : f_extent_Count l = some ((nodesS l).length : Int) := by
  have hlen := sep_len (lo := 0) h (fun e he => (h.1 e he).2.1) (by omega) (by omega)
  unfold f_extent_Count
  rw [union_nil h.1 (by omega) h (fun x => Iff.rfl)]
  simp only [Option.bind_some]
  have := rangeF_inv (ρ := Int) (b := fun i9 (x13 : api_Extent) (s2 : Int) => some (Rd.next (IntKind.i64.wrap (s2 + x13.Count)))) (fun pre => ((nodesS pre).length : Int)) (l := l) (fun pre x suf hp => by
    have hx := h.1 x (by rw [hp]; simp)
    have hn := nodes_len (l := pre) (fun e he => h.1 e (by rw [hp]; simp [he]))
    have hpl : pre.length ≤ 4096 := by
      have : pre.length ≤ l.length := by rw [hp]; simp
      omega
    rw [w64 (by omega) (by omega)]
    congr 2
    simp [nodesS, nodesE]; omega)
  simp only [show nodesS [] = [] from rfl, List.length_nil] at this
  rw [show ((0 : Nat) : Int) = 0 from rfl] at this
  rw [this]
  rfl
end Go.Proofs.Ytogflgcngfghpaa
end
section
set_option maxHeartbeats 4000000
set_option linter.unusedVariables false
set_option linter.unusedSimpArgs false
namespace Go.Proofs.Ytogflgcngfghpaa
open Go.J
def f_slices_Equal_int_int (a0 : List Int) (a1 : List Int) : Option (Bool) :=
 if (!decide ((a0.length : Int) = (a1.length : Int))) = true then some false else (capN (a0.length : Int) (countF (σ := Unit) (ρ := Bool) (fun i9 s2 => (idx a0 i9).bind fun x13 => (idx a1 i9).bind fun x14 => if (!decide (x13 = x14)) = true then some (Rd.ret false) else some (Rd.next ())) (((a0.length : Int) : Int) - 0).toNat 0 ())).bind fun o4 => o4.then fun s2 => some true
theorem c_slices_Equal_int_int {a0 : List Int} {a1 : List Int} {r : Bool} (h : f_slices_Equal_int_int a0 a1 = some r) : Ct Try.prog 31 [(Rep.sl (Rep.int .i64) 1).at a0, (Rep.sl (Rep.int .i64) 1).at a1] [] (fun _ : Unit => Rep.bool.at r) (fun _ => []) := by
 refine Ct.mk Try.func31 rfl Try.ntmps31 (by simp) fun I R => ?_
 refine J.drop0 ?_
 unfold f_slices_Equal_int_int at h
 refine J_seq ?_
 refine J_region ?_
 refine JLp (T_assign rfl) rfl (nofun) .none ?_
 refine JL_nil ?_
 refine KJ_nrm_then (KJ_J ?_)
 refine J_seq ?_
 refine J_seq ?_
 refine J_region ?_
 refine JLp (T_move rfl) rfl (nofun) .none ?_
 refine JLp (T_len (ρ := (Rep.int .i64)) sl25 (.mk rfl)) rfl (nofun) .none ?_
 refine JLp (T_move rfl) rfl (nofun) .none ?_
 refine JLp (T_len (ρ := (Rep.int .i64)) sl25 (.mk rfl)) rfl (nofun) .none ?_
 refine JLp (T_neq rfl rfl) rfl (nofun) .none ?_
 refine JL_nil ?_
 refine KJ_nrm_then (KJ_J ?_)
 refine J_test rfl (fun hq1 => ?_) (fun hq1 => ?_)
 ·replace h := ift hq1 h
  refine J_seq ?_
  refine J_region ?_
  refine JLp (T_assign rfl) rfl (nofun) .none ?_
  refine JL_nil ?_
  refine KJ_nrm_then (KJ_J ?_)
  refine J_ret ?_
  refine KJ_ret_then ?_
  obtain rfl := inj h
  exact KJ_ret1' Try.results31 (.tmp (.mk rfl) Rv.nil) rfl rfl
 ·replace h := iff_ hq1 h
  refine J_skip ?_
  refine KJ_nrm_then (KJ_J ?_)
  refine J_seq ?_
  refine J_seq ?_
  refine J_region ?_
  refine JLp (T_move rfl) rfl (nofun) .none ?_
  refine JLp (T_len (ρ := (Rep.int .i64)) sl25 (.mk rfl)) rfl (nofun) .none ?_
  refine JLp (T_move rfl) rfl (nofun) .none ?_
  refine JL_nil ?_
  refine KJ_nrm_then (KJ_J ?_)
  replace h := bnd h; obtain ⟨o4, ho5, h⟩ := h
  have ho5c := capN_some ho5
  refine J_cuto o4 (fun (s2 : Unit) (g3 : Unit) => []) (fun s2 g3 => R) ?_ ?_
  ·refine J_block ?_
   refine J_count (n := (a0.length : Int)) ho5c.2 (by decide) ho5c.1 (fun i9 (s2 : Unit) (g3 : Unit) => [(0, (Rep.sl (Rep.int .i64) 1).at a0), (1, (Rep.sl (Rep.int .i64) 1).at a1), (12, (Rep.int .i64).at (a0.length : Int)), (13, (Rep.int .i64).at i9)]) (fun i9 s2 g3 => R) () (.cons rfl (.cons rfl (.cons rfl (.cons rfl (.nil _))))) rfl ?_ ?_
   ·intro i9 s2 g3 hi ho5n
    refine J_seq (J_region (JLp (T_lss rfl rfl) rfl (nofun) .none (JL_nil (KJ_nrm_then (KJ_J ?_)))))
    refine J_seq (J_test rfl (fun hp => absurd (of_decide_eq_true hp) (by omega)) (fun _ => J_exit (KJ_exit_then (KJ_exit_then (KJ_exit_here (KJ_nrm_kq ?_))))))
    exact KJ_ot s2 g3 ho5n (.nil _) rfl
   ·intro i9 s2 g3 st8 hi10 hj11 hw12 hb6 hf7
    refine J_seq (J_region (JLp (T_lss rfl rfl) rfl (nofun) .none (JL_nil (KJ_nrm_then (KJ_J ?_)))))
    refine J_seq (J_test rfl (fun _ => J_skip (KJ_nrm_then (KJ_J ?_))) (fun hp => absurd hj11 (of_decide_eq_false hp)))
    refine J_seq ?_
    refine J_block ?_
    refine J_seq ?_
    refine J_region ?_
    refine JLp (T_move rfl) rfl (nofun) .none ?_
    refine JLp (T_assign rfl) rfl (nofun) .none ?_
    refine JL_nil ?_
    refine KJ_nrm_then (KJ_J ?_)
    refine J_seq ?_
    replace hb6 := bnd hb6; obtain ⟨x13, hx13, hb6⟩ := hb6
    replace hb6 := bnd hb6; obtain ⟨x14, hx14, hb6⟩ := hb6
    refine J_drawR (Ks := []) rfl (by kernel_rfl) fun K hK => ?_
    refine DR.p (.base (t := 0) rfl .nil) (T_move rfl) .none rfl rfl (nofun) ?_
    refine DR.p (.base (t := 5) rfl .nil) (T_move rfl) .none rfl rfl (nofun) ?_
    refine DR.p (.dep 0 1 rfl rfl rfl (.dep 1 0 rfl rfl rfl .nil)) (T_ix sl25 (.mk rfl) rfl hx13) .none rfl rfl (nofun) ?_
    refine DR.p (.dep 2 0 rfl rfl rfl .nil) (T_load ty3 rfl) .none rfl rfl (nofun) ?_
    refine DR.p (.base (t := 1) rfl .nil) (T_move rfl) .none rfl rfl (nofun) ?_
    refine DR.p (.base (t := 5) rfl .nil) (T_move rfl) .none rfl rfl (nofun) ?_
    refine DR.p (.dep 4 1 rfl rfl rfl (.dep 5 0 rfl rfl rfl .nil)) (T_ix sl25 (.mk rfl) rfl hx14) .none rfl rfl (nofun) ?_
    refine DR.p (.dep 6 0 rfl rfl rfl .nil) (T_load ty3 rfl) .none rfl rfl (nofun) ?_
    refine DR.tail (by kernel_rfl) (.refl _) rfl ?_
    simp only [List.reverse_cons, List.reverse_nil, List.nil_append, List.cons_append, DT]
    refine JLp (T_neq rfl rfl) rfl (nofun) .none ?_
    refine JL_nil (KJ_hid hK ?_)
    refine KJ_nrm_then (KJ_J ?_)
    refine J_test rfl (fun hq15 => ?_) (fun hq15 => ?_)
    ·replace hb6 := ift hq15 hb6
     refine J_seq ?_
     refine J_region ?_
     refine JLp (T_assign rfl) rfl (nofun) .none ?_
     refine JL_nil ?_
     refine KJ_nrm_then (KJ_J ?_)
     refine J_ret ?_
     refine KJ_ret_blk ?_
     refine KJ_ret_then ?_
     refine KJ_ret_then ?_
     refine KJ_ret_blk ?_
     refine KJ_ret_kq ?_
     refine KJ_ret_then ?_
     obtain rfl := inj hb6
     have hf7' := hf7
     obtain rfl : o4 = _ := hf7'
     replace h : some _ = some _ := h
     obtain rfl := inj h
     exact KJ_ret1' Try.results31 (.tmp (.mk rfl) Rv.nil) rfl rfl
    ·replace hb6 := iff_ hq15 hb6
     refine J_skip ?_
     refine KJ_nrm_blk ?_
     refine KJ_nrm_then (KJ_J ?_)
     refine J_region ?_
     refine JLp (T_addw rfl rfl hw12) rfl (nofun) .none ?_
     refine JLp (T_move rfl) rfl (nofun) .none ?_
     refine JL_nil ?_
     refine KJ_nrm_then ?_
     exact KJ_nx () () (inj hb6) (.cons rfl (.cons rfl (.cons rfl (.cons rfl (.nil _))))) rfl
  ·intro s2 g3 hs
   subst hs
   replace h := thn h
   refine KJ_nrm_then (KJ_J ?_)
   refine J_seq ?_
   refine J_region ?_
   refine JLp (T_assign rfl) rfl (nofun) .none ?_
   refine JL_nil ?_
   refine KJ_nrm_then (KJ_J ?_)
   refine J_ret ?_
   obtain rfl := inj h
   exact KJ_ret1' Try.results31 (.tmp (.mk rfl) Rv.nil) rfl rfl
end Go.Proofs.Ytogflgcngfghpaa
end
section
set_option maxHeartbeats 4000000
set_option linter.unusedVariables false
set_option linter.unusedSimpArgs false
namespace Go.Proofs.Ytogflgcngfghpaa
open Go.J
def f_compare_Check (a0 : api_Walk) : Option (Int) :=
 (f_hashtree_Check a0.Tree).bind fun x1 => if (!decide (x1 = 0)) = true then some x1 else (if (decide (a0.Level < 0)) = true then some true else some (decide ((a0.Tree.Levels.length : Int) ≤ a0.Level))).bind fun c3 => (if c3 = true then some true else (if a0.Done = true then some (!decide (a0.Level = 0)) else some false).bind fun c7 => some c7).bind fun c5 => (if c5 = true then some true else some (decide (a0.Sent < 0))).bind fun c9 => (if c9 = true then some true else some (decide (8192 < a0.Sent))).bind fun c11 => if c11 = true then some 2 else ((if a0.Done = true then (if (decide ((a0.Pending.length : Int) = 0)) = true then (f_extent_Check a0.Found a0.Tree.Size).bind fun x21 => some (decide (x21 = 0)) else some false).bind fun c19 => some (Fl.go c19) else (if (decide (0 < (a0.Pending.length : Int))) = true then some (decide ((a0.Found.length : Int) = 0)) else some false).bind fun c22 => (if c22 = true then (idx a0.Tree.Levels a0.Level).bind fun x23 => (f_extent_Check a0.Pending (x23.length : Int)).bind fun x24 => some (decide (x24 = 0)) else some false).bind fun c25 => some (Fl.go c25) : Option (Fl (Bool) (Int)))).bind fun o15 => o15.then fun s17 => if (!s17) = true then some 3 else some 0
theorem c_compare_Check {a0 : api_Walk} {r : Int} (h : f_compare_Check a0 = some r) : Ct Try.prog 42 [r_api_Walk.at a0] [] (fun _ : Unit => (Rep.int .i64).at r) (fun _ => []) := by
 refine Ct.mk Try.func42 rfl Try.ntmps42 (by simp) fun I R => ?_
 refine J.drop0 ?_
 unfold f_compare_Check at h
 refine J_seq ?_
 refine J_region ?_
 refine JLe0 (T_box (ρ := r_api_Walk) (.mk rfl)) rfl .none ?_
 refine JLp (T_assign rfl) rfl (nofun) .none ?_
 refine JL_nil ?_
 refine KJ_nrm_then (KJ_J ?_)
 refine J_seq ?_
 refine J_seq ?_
 refine J_region ?_
 refine JLp (T_faddri fo41_0 rfl hf_api_Walk_Tree) rfl (nofun) .none ?_
 refine JLp (T_load ty24 rfl) rfl (nofun) .none ?_
 replace h := bnd h; obtain ⟨x1, hx1, h⟩ := h
 refine JLe0 (T_call ⟨_, Try.func32, rfl, rfl⟩ (c_hashtree_Check hx1) ⟨(.mk rfl), trivial⟩) rfl .none ?_
 refine JLp (T_assign rfl) rfl (nofun) .none ?_
 refine JL_nil ?_
 refine KJ_nrm_then (KJ_J ?_)
 refine J_seq ?_
 refine J_region ?_
 refine JLp (T_move rfl) rfl (nofun) .none ?_
 refine JLp (T_neq rfl rfl) rfl (nofun) .none ?_
 refine JL_nil ?_
 refine KJ_nrm_then (KJ_J ?_)
 refine J_test rfl (fun hq2 => ?_) (fun hq2 => ?_)
 ·replace h := ift hq2 h
  refine J_seq ?_
  refine J_region ?_
  refine JLp (T_move rfl) rfl (nofun) .none ?_
  refine JLp (T_assign rfl) rfl (nofun) .none ?_
  refine JL_nil ?_
  refine KJ_nrm_then (KJ_J ?_)
  refine J_ret ?_
  refine KJ_ret_then ?_
  obtain rfl := inj h
  exact KJ_ret1' Try.results42 (.tmp (.mk rfl) Rv.nil) rfl rfl
 ·replace h := iff_ hq2 h
  refine J_skip ?_
  refine KJ_nrm_then (KJ_J ?_)
  refine J_seq ?_
  refine J_seq ?_
  refine J_region ?_
  refine JLp (T_faddri fo41_2 rfl hf_api_Walk_Level) rfl (nofun) .none ?_
  refine JLp (T_load ty3 rfl) rfl (nofun) .none ?_
  refine JLp (T_lss rfl rfl) rfl (nofun) .none ?_
  refine JLp (T_move rfl) rfl (nofun) .none ?_
  replace h := bnd h; obtain ⟨c3, hc3, h⟩ := h
  refine JL_at 8 [(1, (Rep.iptr r_api_Walk).at a0), (22, Rep.bool.at c3)] (R) ?_ ?_
  ·rcases Bool.eq_false_or_eq_true (decide (a0.Level < 0)) with hq4 | hq4
   ·replace hc3 := ift hq4 hc3
    obtain rfl := inj hc3
    refine JLs rfl rfl hq4 rfl ?_
    refine JLs rfl rfl hq4 rfl ?_
    refine JLs rfl rfl hq4 rfl ?_
    refine JLs rfl rfl hq4 rfl ?_
    refine JLs rfl rfl hq4 rfl ?_
    refine JLs rfl rfl hq4 rfl ?_
    refine JLs rfl rfl hq4 rfl ?_
    refine JLp (T_pickT rfl hq4 rfl) rfl (nofun) .none ?_
    refine JL_nil ?_
    exact KJ.sub KJ_end (.cons rfl (.cons rfl (.nil _)))
   ·replace hc3 := iff_ hq4 hc3
    refine JLp (T_faddri fo41_2 rfl hf_api_Walk_Level) rfl (nofun) (.y rfl rfl hq4) ?_
    refine JLp (T_load ty3 rfl) rfl (nofun) (.y rfl rfl hq4) ?_
    refine JLp (T_faddri fo41_0 rfl hf_api_Walk_Tree) rfl (nofun) (.y rfl rfl hq4) ?_
    refine JLp (T_faddri fo24_2 rfl hf_api_Tree_Levels) rfl (nofun) (.y rfl rfl hq4) ?_
    refine JLp (T_load ty22 rfl) rfl (nofun) (.y rfl rfl hq4) ?_
    refine JLp (T_len (ρ := (Rep.sl (Rep.int .u64) 1)) sl22 (.mk rfl)) rfl (nofun) (.y rfl rfl hq4) ?_
    refine JLp (T_geq rfl rfl) rfl (nofun) (.y rfl rfl hq4) ?_
    obtain rfl := inj hc3
    refine JLp (T_pickF rfl hq4 rfl) rfl (nofun) .none ?_
    refine JL_nil ?_
    exact KJ.sub KJ_end (.cons rfl (.cons rfl (.nil _)))
  refine JLp (T_move rfl) rfl (nofun) .none ?_
  replace h := bnd h; obtain ⟨c5, hc5, h⟩ := h
  refine JL_at 8 [(1, (Rep.iptr r_api_Walk).at a0), (31, Rep.bool.at c5)] (R) ?_ ?_
  ·rcases Bool.eq_false_or_eq_true c3 with hq6 | hq6
   ·replace hc5 := ift hq6 hc5
    obtain rfl := inj hc5
    refine JLs rfl rfl hq6 rfl ?_
    refine JLs rfl rfl hq6 rfl ?_
    refine JLs rfl rfl hq6 rfl ?_
    refine JLu rfl rfl rfl ?_
    refine JLu rfl rfl rfl ?_
    refine JLu rfl rfl rfl ?_
    refine JLs rfl rfl hq6 rfl ?_
    refine JLp (T_pickT rfl hq6 rfl) rfl (nofun) .none ?_
    refine JL_nil ?_
    exact KJ.sub KJ_end (.cons rfl (.cons rfl (.nil _)))
   ·replace hc5 := iff_ hq6 hc5
    refine JLp (T_faddri fo41_5 rfl hf_api_Walk_Done) rfl (nofun) (.y rfl rfl hq6) ?_
    refine JLp (T_load ty4 rfl) rfl (nofun) (.y rfl rfl hq6) ?_
    refine JLp (T_move rfl) rfl (nofun) (.y rfl rfl hq6) ?_
    replace hc5 := bnd hc5; obtain ⟨c7, hc7, hc5⟩ := hc5
    refine JL_at 4 [(1, (Rep.iptr r_api_Walk).at a0), (23, Rep.bool.at c3), (30, Rep.bool.at c7)] (R) ?_ ?_
    ·rcases Bool.eq_false_or_eq_true a0.Done with hq8 | hq8
     ·replace hc7 := ift hq8 hc7
      refine JLp (T_faddri fo41_2 rfl hf_api_Walk_Level) rfl (nofun) (.y rfl rfl hq8) ?_
      refine JLp (T_load ty3 rfl) rfl (nofun) (.y rfl rfl hq8) ?_
      refine JLp (T_neq rfl rfl) rfl (nofun) (.y rfl rfl hq8) ?_
      obtain rfl := inj hc7
      refine JLp (T_pickT rfl hq8 rfl) rfl (nofun) (.y rfl rfl hq6) ?_
      refine JL_nil ?_
      exact KJ.sub KJ_end (.cons rfl (.cons rfl (.cons rfl (.nil _))))
     ·replace hc7 := iff_ hq8 hc7
      obtain rfl := inj hc7
      refine JLs rfl rfl hq8 rfl ?_
      refine JLs rfl rfl hq8 rfl ?_
      refine JLs rfl rfl hq8 rfl ?_
      refine JLp (T_pickF rfl hq8 rfl) rfl (nofun) (.y rfl rfl hq6) ?_
      refine JL_nil ?_
      exact KJ.sub KJ_end (.cons rfl (.cons rfl (.cons rfl (.nil _))))
    obtain rfl := inj hc5
    refine JLp (T_pickF rfl hq6 rfl) rfl (nofun) .none ?_
    refine JL_nil ?_
    exact KJ.sub KJ_end (.cons rfl (.cons rfl (.nil _)))
  refine JLp (T_move rfl) rfl (nofun) .none ?_
  replace h := bnd h; obtain ⟨c9, hc9, h⟩ := h
  refine JL_at 4 [(1, (Rep.iptr r_api_Walk).at a0), (36, Rep.bool.at c9)] (R) ?_ ?_
  ·rcases Bool.eq_false_or_eq_true c5 with hq10 | hq10
   ·replace hc9 := ift hq10 hc9
    obtain rfl := inj hc9
    refine JLs rfl rfl hq10 rfl ?_
    refine JLs rfl rfl hq10 rfl ?_
    refine JLs rfl rfl hq10 rfl ?_
    refine JLp (T_pickT rfl hq10 rfl) rfl (nofun) .none ?_
    refine JL_nil ?_
    exact KJ.sub KJ_end (.cons rfl (.cons rfl (.nil _)))
   ·replace hc9 := iff_ hq10 hc9
    refine JLp (T_faddri fo41_4 rfl hf_api_Walk_Sent) rfl (nofun) (.y rfl rfl hq10) ?_
    refine JLp (T_load ty3 rfl) rfl (nofun) (.y rfl rfl hq10) ?_
    refine JLp (T_lss rfl rfl) rfl (nofun) (.y rfl rfl hq10) ?_
    obtain rfl := inj hc9
    refine JLp (T_pickF rfl hq10 rfl) rfl (nofun) .none ?_
    refine JL_nil ?_
    exact KJ.sub KJ_end (.cons rfl (.cons rfl (.nil _)))
  refine JLp (T_move rfl) rfl (nofun) .none ?_
  replace h := bnd h; obtain ⟨c11, hc11, h⟩ := h
  refine JL_at 4 [(1, (Rep.iptr r_api_Walk).at a0), (41, Rep.bool.at c11)] (R) ?_ ?_
  ·rcases Bool.eq_false_or_eq_true c9 with hq12 | hq12
   ·replace hc11 := ift hq12 hc11
    obtain rfl := inj hc11
    refine JLs rfl rfl hq12 rfl ?_
    refine JLs rfl rfl hq12 rfl ?_
    refine JLs rfl rfl hq12 rfl ?_
    refine JLp (T_pickT rfl hq12 rfl) rfl (nofun) .none ?_
    refine JL_nil ?_
    exact KJ.sub KJ_end (.cons rfl (.cons rfl (.nil _)))
   ·replace hc11 := iff_ hq12 hc11
    refine JLp (T_faddri fo41_4 rfl hf_api_Walk_Sent) rfl (nofun) (.y rfl rfl hq12) ?_
    refine JLp (T_load ty3 rfl) rfl (nofun) (.y rfl rfl hq12) ?_
    refine JLp (T_gtr rfl rfl) rfl (nofun) (.y rfl rfl hq12) ?_
    obtain rfl := inj hc11
    refine JLp (T_pickF rfl hq12 rfl) rfl (nofun) .none ?_
    refine JL_nil ?_
    exact KJ.sub KJ_end (.cons rfl (.cons rfl (.nil _)))
  refine JL_nil ?_
  refine KJ_nrm_then (KJ_J ?_)
  refine J_test rfl (fun hq13 => ?_) (fun hq13 => ?_)
  ·replace h := ift hq13 h
   refine J_seq ?_
   refine J_region ?_
   refine JLp (T_assign rfl) rfl (nofun) .none ?_
   refine JL_nil ?_
   refine KJ_nrm_then (KJ_J ?_)
   refine J_ret ?_
   refine KJ_ret_then ?_
   obtain rfl := inj h
   exact KJ_ret1' Try.results42 (.tmp (.mk rfl) Rv.nil) rfl rfl
  ·replace h := iff_ hq13 h
   refine J_skip ?_
   refine KJ_nrm_then (KJ_J ?_)
   refine J_seq ?_
   refine J_region ?_
   refine JLp (T_assign rfl) rfl (nofun) .none ?_
   refine JL_nil ?_
   refine KJ_nrm_then (KJ_J ?_)
   refine J_seq ?_
   refine J_seq ?_
   refine J_region ?_
   refine JLp (T_faddri fo41_5 rfl hf_api_Walk_Done) rfl (nofun) .none ?_
   refine JLp (T_load ty4 rfl) rfl (nofun) .none ?_
   refine JL_nil ?_
   refine KJ_nrm_then (KJ_J ?_)
   replace h := bnd h; obtain ⟨o15, ho16, h⟩ := h
   refine J_cuto o15 (fun (s17 : Bool) (g18 : Unit) => [(4, Rep.bool.at s17)]) (fun s17 g18 => R) ?_ ?_
   ·refine J_test rfl (fun hq14 => ?_) (fun hq14 => ?_)
    ·replace ho16 := ift hq14 ho16
     refine J_region ?_
     refine JLp (T_faddri fo41_1 rfl hf_api_Walk_Pending) rfl (nofun) .none ?_
     refine JLp (T_load ty39 rfl) rfl (nofun) .none ?_
     refine JLp (T_len (ρ := r_api_Extent) sl39 (.mk rfl)) rfl (nofun) .none ?_
     refine JLp (T_eql rfl rfl) rfl (nofun) .none ?_
     refine JLp (T_move rfl) rfl (nofun) .none ?_
     replace ho16 := bnd ho16; obtain ⟨c19, hc19, ho16⟩ := ho16
     refine JL_at 8 [(4, Rep.bool.at false), (56, Rep.bool.at c19)] (R) ?_ ?_
     ·rcases Bool.eq_false_or_eq_true (decide ((a0.Pending.length : Int) = 0)) with hq20 | hq20
      ·replace hc19 := ift hq20 hc19
       refine JLp (T_faddri fo41_3 rfl hf_api_Walk_Found) rfl (nofun) (.y rfl rfl hq20) ?_
       refine JLp (T_load ty39 rfl) rfl (nofun) (.y rfl rfl hq20) ?_
       refine JLp (T_faddri fo41_0 rfl hf_api_Walk_Tree) rfl (nofun) (.y rfl rfl hq20) ?_
       refine JLp (T_faddri fo24_0 rfl hf_api_Tree_Size) rfl (nofun) (.y rfl rfl hq20) ?_
       refine JLp (T_load ty3 rfl) rfl (nofun) (.y rfl rfl hq20) ?_
       replace hc19 := bnd hc19; obtain ⟨x21, hx21, hc19⟩ := hc19
       refine JLe0 (T_call ⟨_, Try.func34, rfl, rfl⟩ (c_extent_Check hx21) ⟨(.mk rfl), ⟨(.mk rfl), trivial⟩⟩) rfl (.y rfl rfl hq20) ?_
       refine JLp (T_eql rfl rfl) rfl (nofun) (.y rfl rfl hq20) ?_
       obtain rfl := inj hc19
       refine JLp (T_pickT rfl hq20 rfl) rfl (nofun) .none ?_
       refine JL_nil ?_
       exact KJ.sub KJ_end (.cons rfl (.cons rfl (.nil _)))
      ·replace hc19 := iff_ hq20 hc19
       obtain rfl := inj hc19
       refine JLs rfl rfl hq20 rfl ?_
       refine JLs rfl rfl hq20 rfl ?_
       refine JLs rfl rfl hq20 rfl ?_
       refine JLs rfl rfl hq20 rfl ?_
       refine JLs rfl rfl hq20 rfl ?_
       refine JLs rfl rfl hq20 rfl ?_
       refine JLs rfl rfl hq20 rfl ?_
       refine JLp (T_pickF rfl hq20 rfl) rfl (nofun) .none ?_
       refine JL_nil ?_
       exact KJ.sub KJ_end (.cons rfl (.cons rfl (.nil _)))
     refine JLp (T_assign rfl) rfl (nofun) .none ?_
     refine JL_nil ?_
     refine KJ_nrm_kq ?_
     exact KJ_ot c19 () (inj ho16) (.cons rfl (.nil _)) rfl
    ·replace ho16 := iff_ hq14 ho16
     replace ho16 := bnd ho16; obtain ⟨c22, hc22, ho16⟩ := ho16
     replace ho16 := bnd ho16; obtain ⟨c25, hc25, ho16⟩ := ho16
     refine J_cutN [(4, Rep.bool.at c25)] (R) ?_ ?_
     ·rcases Bool.eq_false_or_eq_true (decide (0 < (a0.Pending.length : Int))) with hqc22 | hqc22
      ·replace hc22 := ift hqc22 hc22
       obtain rfl := inj hc22
       rcases Bool.eq_false_or_eq_true (decide ((a0.Found.length : Int) = 0)) with hqc25 | hqc25
       ·replace hc25 := ift hqc25 hc25
        replace hc25 := bnd hc25; obtain ⟨x23, hx23, hc25⟩ := hc25
        replace hc25 := bnd hc25; obtain ⟨x24, hx24, hc25⟩ := hc25
        obtain rfl := inj hc25
        refine J_drawR (Ks := []) rfl (by kernel_rfl) fun K hK => ?_
        refine DR.p (.base (t := 1) rfl .nil) (T_faddri fo41_1 rfl hf_api_Walk_Pending) .none rfl rfl (nofun) ?_
        refine DR.p (.dep 0 0 rfl rfl rfl .nil) (T_load ty39 rfl) .none rfl rfl (nofun) ?_
        refine DR.p (.dep 1 0 rfl rfl rfl .nil) (T_len (ρ := r_api_Extent) sl39 (.mk rfl)) .none rfl rfl (nofun) ?_
        refine DR.p (.dep 2 0 rfl rfl rfl .nil) (T_gtr rfl rfl) .none rfl rfl (nofun) ?_
        refine DR.p (.dep 3 0 rfl rfl rfl .nil) (T_move rfl) .none rfl rfl (nofun) ?_
        refine DR.p (.base (t := 1) rfl (.dep 4 0 rfl rfl rfl .nil)) (T_faddri fo41_3 rfl hf_api_Walk_Found) (.y rfl rfl hqc22) rfl rfl (nofun) ?_
        refine DR.p (.dep 5 0 rfl rfl rfl (.dep 4 1 rfl rfl rfl .nil)) (T_load ty39 rfl) (.y rfl rfl hqc22) rfl rfl (nofun) ?_
        refine DR.p (.dep 6 0 rfl rfl rfl (.dep 4 2 rfl rfl rfl .nil)) (T_len (ρ := r_api_Extent) sl39 (.mk rfl)) (.y rfl rfl hqc22) rfl rfl (nofun) ?_
        refine DR.p (.dep 7 0 rfl rfl rfl (.dep 4 3 rfl rfl rfl .nil)) (T_eql rfl rfl) (.y rfl rfl hqc22) rfl rfl (nofun) ?_
        refine DR.p (.dep 4 4 rfl rfl rfl (.dep 8 0 rfl rfl rfl .nil)) (T_pickT rfl hqc22 rfl) .none rfl rfl (nofun) ?_
        refine DR.p (.dep 9 0 rfl rfl rfl .nil) (T_move rfl) .none rfl rfl (nofun) ?_
        refine DR.p (.base (t := 1) rfl (.dep 10 0 rfl rfl rfl .nil)) (T_faddri fo41_1 rfl hf_api_Walk_Pending) (.y rfl rfl hqc25) rfl rfl (nofun) ?_
        refine DR.p (.dep 11 0 rfl rfl rfl (.dep 10 1 rfl rfl rfl .nil)) (T_load ty39 rfl) (.y rfl rfl hqc25) rfl rfl (nofun) ?_
        refine DR.p (.base (t := 1) rfl (.dep 10 2 rfl rfl rfl .nil)) (T_faddri fo41_0 rfl hf_api_Walk_Tree) (.y rfl rfl hqc25) rfl rfl (nofun) ?_
        refine DR.p (.dep 13 0 rfl rfl rfl (.dep 10 3 rfl rfl rfl .nil)) (T_faddri fo24_2 rfl hf_api_Tree_Levels) (.y rfl rfl hqc25) rfl rfl (nofun) ?_
        refine DR.p (.dep 14 0 rfl rfl rfl (.dep 10 4 rfl rfl rfl .nil)) (T_load ty22 rfl) (.y rfl rfl hqc25) rfl rfl (nofun) ?_
        refine DR.p (.base (t := 1) rfl (.dep 10 5 rfl rfl rfl .nil)) (T_faddri fo41_2 rfl hf_api_Walk_Level) (.y rfl rfl hqc25) rfl rfl (nofun) ?_
        refine DR.p (.dep 16 0 rfl rfl rfl (.dep 10 6 rfl rfl rfl .nil)) (T_load ty3 rfl) (.y rfl rfl hqc25) rfl rfl (nofun) ?_
        refine DR.p (.dep 15 2 rfl rfl rfl (.dep 17 0 rfl rfl rfl (.dep 10 7 rfl rfl rfl .nil))) (T_ix sl22 (.mk rfl) rfl hx23) (.y rfl rfl hqc25) rfl rfl (nofun) ?_
        refine DR.p (.dep 18 0 rfl rfl rfl (.dep 10 8 rfl rfl rfl .nil)) (T_load ty67 rfl) (.y rfl rfl hqc25) rfl rfl (nofun) ?_
        refine DR.p (.dep 19 0 rfl rfl rfl (.dep 10 9 rfl rfl rfl .nil)) (T_len (ρ := (Rep.int .u64)) sl67 (.mk rfl)) (.y rfl rfl hqc25) rfl rfl (nofun) ?_
        refine DR.tail (by kernel_rfl) (.refl _) rfl ?_
        simp only [List.reverse_cons, List.reverse_nil, List.nil_append, List.cons_append, DT]
        refine JLe0 (T_call ⟨_, Try.func34, rfl, rfl⟩ (c_extent_Check hx24) ⟨(.mk rfl), ⟨(.mk rfl), trivial⟩⟩) rfl (.y rfl rfl hqc25) ?_
        refine JLp (T_eql rfl rfl) rfl (nofun) (.y rfl rfl hqc25) ?_
        refine JLp (T_pickT rfl hqc25 rfl) rfl (nofun) .none ?_
        refine JLp (T_assign rfl) rfl (nofun) .none ?_
        refine JL_nil (KJ_hid hK ?_)
        exact KJ.sub KJ_end (.cons rfl (.nil _))
       ·replace hc25 := iff_ hqc25 hc25
        obtain rfl := inj hc25
        refine J_drawR (Ks := []) rfl (by kernel_rfl) fun K hK => ?_
        refine DR.p (.base (t := 1) rfl .nil) (T_faddri fo41_1 rfl hf_api_Walk_Pending) .none rfl rfl (nofun) ?_
        refine DR.p (.dep 0 0 rfl rfl rfl .nil) (T_load ty39 rfl) .none rfl rfl (nofun) ?_
        refine DR.p (.dep 1 0 rfl rfl rfl .nil) (T_len (ρ := r_api_Extent) sl39 (.mk rfl)) .none rfl rfl (nofun) ?_
        refine DR.p (.dep 2 0 rfl rfl rfl .nil) (T_gtr rfl rfl) .none rfl rfl (nofun) ?_
        refine DR.p (.dep 3 0 rfl rfl rfl .nil) (T_move rfl) .none rfl rfl (nofun) ?_
        refine DR.p (.base (t := 1) rfl (.dep 4 0 rfl rfl rfl .nil)) (T_faddri fo41_3 rfl hf_api_Walk_Found) (.y rfl rfl hqc22) rfl rfl (nofun) ?_
        refine DR.p (.dep 5 0 rfl rfl rfl (.dep 4 1 rfl rfl rfl .nil)) (T_load ty39 rfl) (.y rfl rfl hqc22) rfl rfl (nofun) ?_
        refine DR.p (.dep 6 0 rfl rfl rfl (.dep 4 2 rfl rfl rfl .nil)) (T_len (ρ := r_api_Extent) sl39 (.mk rfl)) (.y rfl rfl hqc22) rfl rfl (nofun) ?_
        refine DR.p (.dep 7 0 rfl rfl rfl (.dep 4 3 rfl rfl rfl .nil)) (T_eql rfl rfl) (.y rfl rfl hqc22) rfl rfl (nofun) ?_
        refine DR.p (.dep 4 4 rfl rfl rfl (.dep 8 0 rfl rfl rfl .nil)) (T_pickT rfl hqc22 rfl) .none rfl rfl (nofun) ?_
        refine DR.p (.dep 9 0 rfl rfl rfl .nil) (T_move rfl) .none rfl rfl (nofun) ?_
        refine DR.x (.dep 10 0 rfl rfl rfl .nil) rfl rfl hqc25 rfl rfl ?_
        refine DR.x (.dep 10 1 rfl rfl rfl .nil) rfl rfl hqc25 rfl rfl ?_
        refine DR.x (.dep 10 2 rfl rfl rfl .nil) rfl rfl hqc25 rfl rfl ?_
        refine DR.x (.dep 10 3 rfl rfl rfl .nil) rfl rfl hqc25 rfl rfl ?_
        refine DR.x (.dep 10 4 rfl rfl rfl .nil) rfl rfl hqc25 rfl rfl ?_
        refine DR.x (.dep 10 5 rfl rfl rfl .nil) rfl rfl hqc25 rfl rfl ?_
        refine DR.x (.dep 10 6 rfl rfl rfl .nil) rfl rfl hqc25 rfl rfl ?_
        refine DR.x (.dep 10 7 rfl rfl rfl .nil) rfl rfl hqc25 rfl rfl ?_
        refine DR.x (.dep 10 8 rfl rfl rfl .nil) rfl rfl hqc25 rfl rfl ?_
        refine DR.x (.dep 10 9 rfl rfl rfl .nil) rfl rfl hqc25 rfl rfl ?_
        refine DR.tail (by kernel_rfl) (.refl _) rfl ?_
        simp only [List.reverse_cons, List.reverse_nil, List.nil_append, List.cons_append, DT]
        refine JLs rfl rfl hqc25 rfl ?_
        refine JLs rfl rfl hqc25 rfl ?_
        refine JLp (T_pickF rfl hqc25 rfl) rfl (nofun) .none ?_
        refine JLp (T_assign rfl) rfl (nofun) .none ?_
        refine JL_nil (KJ_hid hK ?_)
        exact KJ.sub KJ_end (.cons rfl (.nil _))
      ·replace hc22 := iff_ hqc22 hc22
       obtain rfl := inj hc22
       replace hc25 := iff_ rfl hc25
       obtain rfl := inj hc25
       refine J_drawR (Ks := []) rfl (by kernel_rfl) fun K hK => ?_
       refine DR.p (.base (t := 1) rfl .nil) (T_faddri fo41_1 rfl hf_api_Walk_Pending) .none rfl rfl (nofun) ?_
       refine DR.p (.dep 0 0 rfl rfl rfl .nil) (T_load ty39 rfl) .none rfl rfl (nofun) ?_
       refine DR.p (.dep 1 0 rfl rfl rfl .nil) (T_len (ρ := r_api_Extent) sl39 (.mk rfl)) .none rfl rfl (nofun) ?_
       refine DR.p (.dep 2 0 rfl rfl rfl .nil) (T_gtr rfl rfl) .none rfl rfl (nofun) ?_
       refine DR.p (.dep 3 0 rfl rfl rfl .nil) (T_move rfl) .none rfl rfl (nofun) ?_
       refine DR.x (.dep 4 0 rfl rfl rfl .nil) rfl rfl hqc22 rfl rfl ?_
       refine DR.x (.dep 4 1 rfl rfl rfl .nil) rfl rfl hqc22 rfl rfl ?_
       refine DR.x (.dep 4 2 rfl rfl rfl .nil) rfl rfl hqc22 rfl rfl ?_
       refine DR.x (.dep 4 3 rfl rfl rfl .nil) rfl rfl hqc22 rfl rfl ?_
       refine DR.p (.dep 4 4 rfl rfl rfl (.dep 8 0 rfl rfl rfl .nil)) (T_pickF rfl hqc22 rfl) .none rfl rfl (nofun) ?_
       refine DR.p (.dep 9 0 rfl rfl rfl .nil) (T_move rfl) .none rfl rfl (nofun) ?_
       refine DR.x (.dep 10 0 rfl rfl rfl .nil) rfl rfl rfl rfl rfl ?_
       refine DR.x (.dep 10 1 rfl rfl rfl .nil) rfl rfl rfl rfl rfl ?_
       refine DR.x (.dep 10 2 rfl rfl rfl .nil) rfl rfl rfl rfl rfl ?_
       refine DR.x (.dep 10 3 rfl rfl rfl .nil) rfl rfl rfl rfl rfl ?_
       refine DR.x (.dep 10 4 rfl rfl rfl .nil) rfl rfl rfl rfl rfl ?_
       refine DR.x (.dep 10 5 rfl rfl rfl .nil) rfl rfl rfl rfl rfl ?_
       refine DR.x (.dep 10 6 rfl rfl rfl .nil) rfl rfl rfl rfl rfl ?_
       refine DR.x (.dep 10 7 rfl rfl rfl .nil) rfl rfl rfl rfl rfl ?_
       refine DR.x (.dep 10 8 rfl rfl rfl .nil) rfl rfl rfl rfl rfl ?_
       refine DR.x (.dep 10 9 rfl rfl rfl .nil) rfl rfl rfl rfl rfl ?_
       refine DR.tail (by kernel_rfl) (.refl _) rfl ?_
       simp only [List.reverse_cons, List.reverse_nil, List.nil_append, List.cons_append, DT]
       refine JLs rfl rfl rfl rfl ?_
       refine JLs rfl rfl rfl rfl ?_
       refine JLp (T_pickF rfl rfl rfl) rfl (nofun) .none ?_
       refine JLp (T_assign rfl) rfl (nofun) .none ?_
       refine JL_nil (KJ_hid hK ?_)
       exact KJ.sub KJ_end (.cons rfl (.nil _))
     ·refine KJ_nrm_kq ?_
      exact KJ_ot c25 () (inj ho16) (.cons rfl (.nil _)) rfl
   ·intro s17 g18 hs
    subst hs
    replace h := thn h
    refine KJ_nrm_then (KJ_J ?_)
    refine J_seq ?_
    refine J_seq ?_
    refine J_region ?_
    refine JLp (T_move rfl) rfl (nofun) .none ?_
    refine JLp (T_not rfl) rfl (nofun) .none ?_
    refine JL_nil ?_
    refine KJ_nrm_then (KJ_J ?_)
    refine J_test rfl (fun hq26 => ?_) (fun hq26 => ?_)
    ·replace h := ift hq26 h
     refine J_seq ?_
     refine J_region ?_
     refine JLp (T_assign rfl) rfl (nofun) .none ?_
     refine JL_nil ?_
     refine KJ_nrm_then (KJ_J ?_)
     refine J_ret ?_
     refine KJ_ret_then ?_
     obtain rfl := inj h
     exact KJ_ret1' Try.results42 (.tmp (.mk rfl) Rv.nil) rfl rfl
    ·replace h := iff_ hq26 h
     refine J_skip ?_
     refine KJ_nrm_then (KJ_J ?_)
     refine J_seq ?_
     refine J_region ?_
     refine JLp (T_assign rfl) rfl (nofun) .none ?_
     refine JL_nil ?_
     refine KJ_nrm_then (KJ_J ?_)
     refine J_ret ?_
     obtain rfl := inj h
     exact KJ_ret1' Try.results42 (.tmp (.mk rfl) Rv.nil) rfl rfl
end Go.Proofs.Ytogflgcngfghpaa
end
section
set_option maxHeartbeats 4000000
set_option linter.unusedVariables false
set_option linter.unusedSimpArgs false
namespace Go.Proofs.Ytogflgcngfghpaa
open Go.J
def f_slices_Clone_uint64_uint64 (a0 : List Int) : Option (List Int) := app 8 [] a0
theorem c_slices_Clone_uint64_uint64 {a0 : List Int} {r : List Int} (h : f_slices_Clone_uint64_uint64 a0 = some r) : Ct Try.prog 73 [(Rep.sl (Rep.int .u64) 1).at a0] [] (fun _ : Unit => (Rep.sl (Rep.int .u64) 1).at r) (fun _ => []) := by
 refine Ct.mk Try.func73 rfl Try.ntmps73 (by simp) fun I R => ?_
 refine J.drop0 ?_
 unfold f_slices_Clone_uint64_uint64 at h
 refine J_seq (J_region (JLp (T_assign rfl) rfl (nofun) .none (JL_nil (KJ_nrm_then (KJ_J ?_)))))
 refine J_seq ?_
 refine J_seq (J_region ?_)
 refine JLp (T_move rfl) rfl (nofun) .none ?_
 refine JLv (T_eqnil (ρ := (Rep.int .u64)) (n := 1) Try.underlying67 (.mk rfl)) rfl .none fun b => ?_
 refine JL_nil (KJ_nrm_then (KJ_J ?_))
 refine J_test rfl (fun hq => ?_) (fun hq => ?_)
 ·have hb := b.2 hq
  have hr : r = [] := by rw [hb] at h; simp [app, lim] at h; exact h
  subst hr
  refine J_seq (J_region (JLp (T_assign rfl) rfl (nofun) .none (JL_nil (KJ_nrm_then (KJ_J ?_)))))
  refine J_ret (KJ_ret_then ?_)
  exact KJ_ret1' Try.results73 (.tmp (.nilc rfl) Rv.nil) rfl rfl
 ·refine J_skip (KJ_nrm_then (KJ_J ?_))
  refine J_seq (J_region ?_)
  refine JLv (T_bslr (ρ := (Rep.int .u64)) (l := []) sl67 (Lay.int _) .nil rfl (by decide)) rfl .none fun g1 => ?_
  refine JLp (T_move rfl) rfl (nofun) .none ?_
  refine JLe1 (T_append sl67 ⟨_, (Lay.int _)⟩ (.mk rfl) (.mk rfl) h) rfl .none fun g2 => ?_
  refine JLp (T_assign rfl) rfl (nofun) .none ?_
  refine JL_nil (KJ_nrm_then (KJ_J ?_))
  refine J_ret ?_
  refine KJ_freeze (t := 2) rfl ?_
  exact KJ_ret1' Try.results73 (.tmp (.mk rfl) Rv.nil) rfl rfl
end Go.Proofs.Ytogflgcngfghpaa
end
section
set_option maxHeartbeats 4000000
set_option linter.unusedVariables false
set_option linter.unusedSimpArgs false
namespace Go.Proofs.Ytogflgcngfghpaa
open Go.J
def f_compare_copied (a0 : api_Tree) : Option (api_Tree) :=
 (mkC 24 (a0.Levels.length : Int)).bind fun x3 => (rangeF (σ := List (List Int)) (ρ := api_Tree) (fun i12 x16 s5 => (f_slices_Clone_uint64_uint64 x16).bind fun x18 => (app 24 s5 [x18]).bind fun x19 => some (Rd.next x19)) a0.Levels 0 ([] : List (List Int))).bind fun o7 => o7.then fun s5 => some (⟨a0.Size, a0.Leaf, s5⟩ : api_Tree)
theorem c_compare_copied {a0 : api_Tree} {r : api_Tree} (h : f_compare_copied a0 = some r) : Ct Try.prog 43 [r_api_Tree.at a0] [] (fun _ : Unit => r_api_Tree.at r) (fun _ => []) := by
 refine Ct.mk Try.func43 rfl Try.ntmps43 (by simp) fun I R => ?_
 refine J.drop0 ?_
 unfold f_compare_copied at h
 refine J_seq ?_
 refine J_region ?_
 refine JLa (T_boxm (.mk rfl) lay_api_Tree) rfl .none fun b1 => ?_
 refine JLa (T_alloc z24 lay_api_Tree) rfl .none fun b2 => ?_
 refine JL_nil ?_
 refine KJ_nrm_then (KJ_J ?_)
 refine J_seq ?_
 refine J_region ?_
 refine JLp (T_faddr fo24_2 rfl) rfl (nofun) .none ?_
 refine JLp (T_loadb ty22 rfl hf_api_Tree_Levels) rfl B1 .none ?_
 refine JLp (T_len (ρ := (Rep.sl (Rep.int .u64) 1)) sl22 (.mk rfl)) rfl (nofun) .none ?_
 replace h := bnd h; obtain ⟨x3, hx3, h⟩ := h
 refine JLv (T_mkrow (ρ := (Rep.sl (Rep.int .u64) 1)) sl22 rfl rfl hx3) rfl .none fun g4 => ?_
 refine JLp (T_assign rfl) rfl (nofun) .none ?_
 refine JL_nil ?_
 refine KJ_nrm_then (KJ_J ?_)
 refine J_seq ?_
 refine J_seq ?_
 refine J_region ?_
 refine JLp (T_faddr fo24_2 rfl) rfl (nofun) .none ?_
 refine JLp (T_loadb ty22 rfl hf_api_Tree_Levels) rfl B2 .none ?_
 refine JLp (T_len (ρ := (Rep.sl (Rep.int .u64) 1)) sl22 (.mk rfl)) rfl (nofun) .none ?_
 refine JLp (T_move rfl) rfl (nofun) .none ?_
 refine JL_nil ?_
 refine KJ_nrm_then (KJ_J ?_)
 replace h := bnd h; obtain ⟨o7, ho8, h⟩ := h
 refine J_cuto o7 (fun (s5 : List (List Int)) (g6 : Value) => [(1, Rep.ptr.at (b1, 0)), (2, Rep.ptr.at (b2, 0)), (3, Rep.slv.at g6)]) (fun s5 g6 => Ent.row g6 67 1 (Rep.sl (Rep.int .u64) 1) s5 :: Ent.box b2 r_api_Tree (⟨0, 0, []⟩ : api_Tree) :: Ent.box b1 r_api_Tree a0 :: R) ?_ ?_
 ·refine J_block ?_
  refine J_lim (ρ := (Rep.sl (Rep.int .u64) 1)) (n := 1) (l := a0.Levels) (x := .tmp 11) (.mk rfl) fun hl => ?_
  refine J_range ho8 hl (fun i12 (s5 : List (List Int)) (g6 : Value) => [(1, Rep.ptr.at (b1, 0)), (2, Rep.ptr.at (b2, 0)), (11, (Rep.sl (Rep.sl (Rep.int .u64) 1) 1).at a0.Levels), (12, (Rep.int .i64).at (a0.Levels.length : Int)), (3, Rep.slv.at g6), (13, (Rep.int .i64).at i12)]) (fun i12 s5 g6 => Ent.row g6 67 1 (Rep.sl (Rep.int .u64) 1) s5 :: Ent.box b2 r_api_Tree (⟨0, 0, []⟩ : api_Tree) :: Ent.box b1 r_api_Tree a0 :: R) g4 (.cons rfl (.cons rfl (.cons rfl (.cons rfl (.cons rfl (.cons rfl (.nil _))))))) rfl ?_ ?_
  ·intro s5 g6 ho8n
   refine J_seq (J_region (JLp (T_lss rfl rfl) rfl (nofun) .none (JL_nil (KJ_nrm_then (KJ_J ?_)))))
   refine J_seq (J_test rfl (fun hp => absurd (of_decide_eq_true hp) (by omega)) (fun _ => J_exit (KJ_exit_then (KJ_exit_then (KJ_exit_here (KJ_nrm_kq ?_))))))
   exact KJ_ot s5 g6 ho8n (.cons rfl (.cons rfl (.cons rfl (.nil _)))) rfl
  ·intro i12 x16 s5 g6 st11 hi13 hj14 hx17 hw15 hb9 hf10
   refine J_seq (J_region (JLp (T_lss rfl rfl) rfl (nofun) .none (JL_nil (KJ_nrm_then (KJ_J ?_)))))
   refine J_seq (J_test rfl (fun _ => J_skip (KJ_nrm_then (KJ_J ?_))) (fun hp => absurd hj14 (of_decide_eq_false hp)))
   refine J_seq ?_
   refine J_block ?_
   refine J_seq ?_
   refine J_region ?_
   refine JLp (T_ix sl22 (.mk rfl) rfl hx17) rfl (nofun) .none ?_
   refine JLp (T_load ty67 rfl) rfl (nofun) .none ?_
   refine JLp (T_assign rfl) rfl (nofun) .none ?_
   refine JL_nil ?_
   refine KJ_nrm_then (KJ_J ?_)
   refine J_region ?_
   refine JLp (T_move rfl) rfl (nofun) .none ?_
   refine JLp (T_move rfl) rfl (nofun) .none ?_
   replace hb9 := bnd hb9; obtain ⟨x18, hx18, hb9⟩ := hb9
   refine JLe0 (T_call ⟨_, Try.func73, rfl, rfl⟩ (c_slices_Clone_uint64_uint64 hx18) ⟨(.mk rfl), trivial⟩) rfl .none ?_
   refine JLe0 (T_bslice (ρ := (Rep.sl (Rep.int .u64) 1)) sl22 (Lay.sl _ _) (.cons (.mk rfl) .nil) rfl (by decide)) rfl .none ?_
   replace hb9 := bnd hb9; obtain ⟨x19, hx19, hb9⟩ := hb9
   refine JLe1 (T_append sl22 ⟨_, (Lay.sl _ _)⟩ (.mk rfl) (.mk rfl) hx19) rfl .none fun g20 => ?_
   refine JLp (T_assign rfl) rfl (nofun) .none ?_
   refine JL_nil ?_
   refine KJ_nrm_blk ?_
   refine KJ_nrm_then (KJ_J ?_)
   refine J_region ?_
   refine JLp (T_addw rfl rfl hw15) rfl (nofun) .none ?_
   refine JLp (T_move rfl) rfl (nofun) .none ?_
   refine JL_nil ?_
   refine KJ_nrm_then ?_
   exact KJ_nx x19 g20 (inj hb9) (.cons rfl (.cons rfl (.cons rfl (.cons rfl (.cons rfl (.cons rfl (.nil _))))))) rfl
 ·intro s5 g6 hs
  subst hs
  replace h := thn h
  refine KJ_nrm_then (KJ_J ?_)
  refine J_seq ?_
  refine J_region ?_
  refine JLp (T_move rfl) rfl (nofun) .none ?_
  refine JLp (T_faddr fo24_2 rfl) rfl (nofun) .none ?_
  refine JL_freeze2 23 3 rfl rfl ?_
  refine JL.perm F1 ?_
  refine JLn1 (T_storeV (⟨a0.Size, a0.Leaf, s5⟩ : api_Tree) ty22 rfl (.mk rfl) sf_api_Tree_Levels rfl) .none ?_
  refine JL_nil ?_
  refine KJ_nrm_then (KJ_J ?_)
  refine J_seq ?_
  refine J_region ?_
  refine JLp (T_loadw ty24 rfl) rfl B0 .none ?_
  refine JL.perm F1 ?_
  refine JLn1 (T_store ty24 rfl (.mk rfl) (SetF.self lay_api_Tree)) .none ?_
  refine JL_nil ?_
  refine KJ_nrm_then (KJ_J ?_)
  refine J_ret ?_
  obtain rfl := inj h
  exact KJ_ret1c () [Ent.box b2 r_api_Tree (⟨a0.Size, a0.Leaf, s5⟩ : api_Tree), Ent.box b1 r_api_Tree (⟨a0.Size, a0.Leaf, s5⟩ : api_Tree)] rfl Try.results43 (.cell ty24 rfl (by simp) Rv.nil) rfl rfl
end Go.Proofs.Ytogflgcngfghpaa
end
section
set_option maxHeartbeats 4000000
set_option linter.unusedVariables false
set_option linter.unusedSimpArgs false
namespace Go.Proofs.Ytogflgcngfghpaa
open Go.J
def f_compare_walk_request (a0 : compare_walk) : Option (api_Message) :=
 (rangeF (σ := List Int) (ρ := api_Message) (fun i10 x14 s3 => (app 8 s3 [x14.Start, x14.Count]).bind fun x17 => some (Rd.next x17)) a0.Walk.Pending 0 ([a0.Walk.Tree.Size, a0.Walk.Tree.Leaf] : List Int)).bind fun o5 => o5.then fun s3 => some (⟨13, 0, 0, a0.Walk.Level, 0, 0, s3, []⟩ : api_Message)
theorem c_compare_walk_request {a0 : compare_walk} {b0 : Nat} {r : api_Message} (h : f_compare_walk_request a0 = some r) : Ct Try.prog 44 [Rep.ptr.at (b0, 0)] [Ent.box b0 r_compare_walk a0] (fun _ : Unit => r_api_Message.at r) (fun _ => [Ent.box b0 r_compare_walk a0]) := by
 refine Ct.mk Try.func44 rfl Try.ntmps44 (by simp) fun I R => ?_
 unfold f_compare_walk_request at h
 refine J_seq ?_
 refine J_region ?_
 refine JLa (T_alloc z28 lay_api_Message) rfl .none fun b1 => ?_
 refine JL_nil ?_
 refine KJ_nrm_then (KJ_J ?_)
 refine J_seq ?_
 refine J_drawR (Ks := []) rfl (by kernel_rfl) fun K hK => ?_
 refine DR.p (.base (t := 0) rfl .nil) (T_move rfl) .none rfl rfl (nofun) ?_
 refine DR.p (.dep 0 0 rfl rfl rfl .nil) (T_nilchk rfl) .none rfl rfl (nofun) ?_
 refine DR.p (.dep 1 0 rfl rfl rfl .nil) (T_faddr fo98_0 rfl) .none rfl rfl (nofun) ?_
 refine DR.p (.dep 2 0 rfl rfl rfl .nil) (T_faddr fo41_0 rfl) .none rfl rfl (nofun) ?_
 refine DR.p (.dep 3 0 rfl rfl rfl .nil) (T_faddr fo24_0 rfl) .none rfl rfl (nofun) ?_
 refine DR.p (.dep 4 0 rfl rfl rfl .nil) (T_loadb ty3 rfl (HasF.comp (HasF.comp hf_compare_walk_Walk hf_api_Walk_Tree) hf_api_Tree_Size)) .none rfl rfl B1 ?_
 refine DR.p (.base (t := 0) rfl .nil) (T_move rfl) .none rfl rfl (nofun) ?_
 refine DR.p (.dep 6 0 rfl rfl rfl .nil) (T_nilchk rfl) .none rfl rfl (nofun) ?_
 refine DR.p (.dep 7 0 rfl rfl rfl .nil) (T_faddr fo98_0 rfl) .none rfl rfl (nofun) ?_
 refine DR.p (.dep 8 0 rfl rfl rfl .nil) (T_faddr fo41_0 rfl) .none rfl rfl (nofun) ?_
 refine DR.p (.dep 9 0 rfl rfl rfl .nil) (T_faddr fo24_1 rfl) .none rfl rfl (nofun) ?_
 refine DR.p (.dep 10 0 rfl rfl rfl .nil) (T_loadb ty3 rfl (HasF.comp (HasF.comp hf_compare_walk_Walk hf_api_Walk_Tree) hf_api_Tree_Leaf)) .none rfl rfl B1 ?_
 refine DR.tail (by kernel_rfl) (.refl _) rfl ?_
 simp only [List.reverse_cons, List.reverse_nil, List.nil_append, List.cons_append, DT]
 refine JLv (T_bslr (ρ := (Rep.int .i64)) sl25 (Lay.int _) (.cons (.mk rfl) (.cons (.mk rfl) .nil)) rfl (by decide)) rfl .none fun g2 => ?_
 refine JLp (T_assign rfl) rfl (nofun) .none ?_
 refine JL_nil (KJ_hid hK ?_)
 refine KJ_nrm_then (KJ_J ?_)
 refine J_seq ?_
 refine J_seq ?_
 refine J_region ?_
 refine JLp (T_move rfl) rfl (nofun) .none ?_
 refine JLp (T_nilchk rfl) rfl (nofun) .none ?_
 refine JLp (T_faddr fo98_0 rfl) rfl (nofun) .none ?_
 refine JLp (T_faddr fo41_1 rfl) rfl (nofun) .none ?_
 refine JLp (T_loadb ty39 rfl (HasF.comp hf_compare_walk_Walk hf_api_Walk_Pending)) rfl B2 .none ?_
 refine JLp (T_len (ρ := r_api_Extent) sl39 (.mk rfl)) rfl (nofun) .none ?_
 refine JLp (T_move rfl) rfl (nofun) .none ?_
 refine JL_nil ?_
 refine KJ_nrm_then (KJ_J ?_)
 replace h := bnd h; obtain ⟨o5, ho6, h⟩ := h
 refine J_cuto o5 (fun (s3 : List Int) (g4 : Value) => [(0, Rep.ptr.at (b0, 0)), (2, Rep.ptr.at (b1, 0)), (3, Rep.slv.at g4)]) (fun s3 g4 => Ent.row g4 3 1 (Rep.int .i64) s3 :: Ent.box b1 r_api_Message (⟨0, 0, 0, 0, 0, 0, [], []⟩ : api_Message) :: Ent.box b0 r_compare_walk a0 :: R) ?_ ?_
 ·refine J_block ?_
  refine J_lim (ρ := r_api_Extent) (n := 2) (l := a0.Walk.Pending) (x := .tmp 23) (.mk rfl) fun hl => ?_
  refine J_range ho6 hl (fun i10 (s3 : List Int) (g4 : Value) => [(0, Rep.ptr.at (b0, 0)), (2, Rep.ptr.at (b1, 0)), (23, (Rep.sl r_api_Extent 2).at a0.Walk.Pending), (24, (Rep.int .i64).at (a0.Walk.Pending.length : Int)), (3, Rep.slv.at g4), (25, (Rep.int .i64).at i10)]) (fun i10 s3 g4 => Ent.row g4 3 1 (Rep.int .i64) s3 :: Ent.box b1 r_api_Message (⟨0, 0, 0, 0, 0, 0, [], []⟩ : api_Message) :: Ent.box b0 r_compare_walk a0 :: R) g2 (.cons rfl (.cons rfl (.cons rfl (.cons rfl (.cons rfl (.cons rfl (.nil _))))))) rfl ?_ ?_
  ·intro s3 g4 ho6n
   refine J_seq (J_region (JLp (T_lss rfl rfl) rfl (nofun) .none (JL_nil (KJ_nrm_then (KJ_J ?_)))))
   refine J_seq (J_test rfl (fun hp => absurd (of_decide_eq_true hp) (by omega)) (fun _ => J_exit (KJ_exit_then (KJ_exit_then (KJ_exit_here (KJ_nrm_kq ?_))))))
   exact KJ_ot s3 g4 ho6n (.cons rfl (.cons rfl (.cons rfl (.nil _)))) rfl
  ·intro i10 x14 s3 g4 st9 hi11 hj12 hx15 hw13 hb7 hf8
   refine J_seq (J_region (JLp (T_lss rfl rfl) rfl (nofun) .none (JL_nil (KJ_nrm_then (KJ_J ?_)))))
   refine J_seq (J_test rfl (fun _ => J_skip (KJ_nrm_then (KJ_J ?_))) (fun hp => absurd hj12 (of_decide_eq_false hp)))
   refine J_seq ?_
   refine J_block ?_
   refine J_seq ?_
   refine J_region ?_
   refine JLp (T_ix sl39 (.mk rfl) rfl hx15) rfl (nofun) .none ?_
   refine JLp (T_load ty62 rfl) rfl (nofun) .none ?_
   refine JLa (T_alloc z62 lay_api_Extent) rfl .none fun b16 => ?_
   refine JLn1 (T_store ty62 rfl (.mk rfl) (SetF.self lay_api_Extent)) .none ?_
   refine JL_nil ?_
   refine KJ_nrm_then (KJ_J ?_)
   refine J_region ?_
   refine JLp (T_move rfl) rfl (nofun) .none ?_
   refine JLp (T_faddr fo62_0 rfl) rfl (nofun) .none ?_
   refine JLp (T_loadb ty3 rfl hf_api_Extent_Start) rfl B0 .none ?_
   refine JLp (T_faddr fo62_1 rfl) rfl (nofun) .none ?_
   refine JLp (T_loadb ty3 rfl hf_api_Extent_Count) rfl B0 .none ?_
   refine JLe0 (T_bslice (ρ := (Rep.int .i64)) sl25 (Lay.int _) (.cons (.mk rfl) (.cons (.mk rfl) .nil)) rfl (by decide)) rfl .none ?_
   replace hb7 := bnd hb7; obtain ⟨x17, hx17, hb7⟩ := hb7
   refine JL.perm F1 ?_
   refine JLe1 (T_append sl25 ⟨_, (Lay.int _)⟩ (.mk rfl) (.mk rfl) hx17) rfl .none fun g18 => ?_
   refine JLp (T_assign rfl) rfl (nofun) .none ?_
   refine JL_nil ?_
   refine KJ_nrm_blk ?_
   refine KJ_nrm_then (KJ_J ?_)
   refine J_region ?_
   refine JLp (T_addw rfl rfl hw13) rfl (nofun) .none ?_
   refine JLp (T_move rfl) rfl (nofun) .none ?_
   refine JL_nil ?_
   refine KJ_nrm_then ?_
   refine KJ.perm F1 ?_
   refine KJ.drop1 ?_
   exact KJ_nx x17 g18 (inj hb7) (.cons rfl (.cons rfl (.cons rfl (.cons rfl (.cons rfl (.cons rfl (.nil _))))))) rfl
 ·intro s3 g4 hs
  subst hs
  replace h := thn h
  refine KJ_nrm_then (KJ_J ?_)
  refine J_seq ?_
  refine J_region ?_
  refine JLp (T_move rfl) rfl (nofun) .none ?_
  refine JLp (T_nilchk rfl) rfl (nofun) .none ?_
  refine JLp (T_faddr fo98_0 rfl) rfl (nofun) .none ?_
  refine JLp (T_faddr fo41_2 rfl) rfl (nofun) .none ?_
  refine JLp (T_loadb ty3 rfl (HasF.comp hf_compare_walk_Walk hf_api_Walk_Level)) rfl B2 .none ?_
  refine JLp (T_move rfl) rfl (nofun) .none ?_
  refine JL_freeze2 42 3 rfl rfl ?_
  refine JLp (T_build (s' := (⟨13, 0, 0, a0.Walk.Level, 0, 0, s3, []⟩ : api_Message)) bd28 z28 lay_api_Message (.cons (π := (Rep.int .i64)) (.mk rfl) rfl (Lay.int _) sf_api_Message_Kind (.cons (π := (Rep.int .i64)) (.mk rfl) rfl (Lay.int _) sf_api_Message_Number (.cons (π := (Rep.sl (Rep.int .i64) 1)) (.mk rfl) rfl (Lay.sl _ _) sf_api_Message_Values .nil)))) rfl (nofun) .none ?_
  refine JLn1 (T_store ty28 rfl (.mk rfl) (SetF.self lay_api_Message)) .none ?_
  refine JL_nil ?_
  refine KJ_nrm_then (KJ_J ?_)
  refine J_ret ?_
  obtain rfl := inj h
  exact KJ_ret1c () [Ent.box b1 r_api_Message (⟨13, 0, 0, a0.Walk.Level, 0, 0, s3, []⟩ : api_Message)] rfl Try.results44 (.cell ty28 rfl (by simp) Rv.nil) rfl rfl
end Go.Proofs.Ytogflgcngfghpaa
end
section
set_option maxHeartbeats 4000000
set_option linter.unusedVariables false
set_option linter.unusedSimpArgs false
namespace Go.Proofs.Ytogflgcngfghpaa
open Go.J
def f_slices_Equal_byte_byte (a0 : List Int) (a1 : List Int) : Option (Bool) :=
 if (!decide ((a0.length : Int) = (a1.length : Int))) = true then some false else (capN (a0.length : Int) (countF (σ := Unit) (ρ := Bool) (fun i9 s2 => (idx a0 i9).bind fun x13 => (idx a1 i9).bind fun x14 => if (!decide (x13 = x14)) = true then some (Rd.ret false) else some (Rd.next ())) (((a0.length : Int) : Int) - 0).toNat 0 ())).bind fun o4 => o4.then fun s2 => some true
theorem c_slices_Equal_byte_byte {a0 : List Int} {a1 : List Int} {r : Bool} (h : f_slices_Equal_byte_byte a0 a1 = some r) : Ct Try.prog 74 [(Rep.sl (Rep.int .u8) 1).at a0, (Rep.sl (Rep.int .u8) 1).at a1] [] (fun _ : Unit => Rep.bool.at r) (fun _ => []) := by
 refine Ct.mk Try.func74 rfl Try.ntmps74 (by simp) fun I R => ?_
 refine J.drop0 ?_
 unfold f_slices_Equal_byte_byte at h
 refine J_seq ?_
 refine J_region ?_
 refine JLp (T_assign rfl) rfl (nofun) .none ?_
 refine JL_nil ?_
 refine KJ_nrm_then (KJ_J ?_)
 refine J_seq ?_
 refine J_seq ?_
 refine J_region ?_
 refine JLp (T_move rfl) rfl (nofun) .none ?_
 refine JLp (T_len (ρ := (Rep.int .u8)) sl26 (.mk rfl)) rfl (nofun) .none ?_
 refine JLp (T_move rfl) rfl (nofun) .none ?_
 refine JLp (T_len (ρ := (Rep.int .u8)) sl26 (.mk rfl)) rfl (nofun) .none ?_
 refine JLp (T_neq rfl rfl) rfl (nofun) .none ?_
 refine JL_nil ?_
 refine KJ_nrm_then (KJ_J ?_)
 refine J_test rfl (fun hq1 => ?_) (fun hq1 => ?_)
 ·replace h := ift hq1 h
  refine J_seq ?_
  refine J_region ?_
  refine JLp (T_assign rfl) rfl (nofun) .none ?_
  refine JL_nil ?_
  refine KJ_nrm_then (KJ_J ?_)
  refine J_ret ?_
  refine KJ_ret_then ?_
  obtain rfl := inj h
  exact KJ_ret1' Try.results74 (.tmp (.mk rfl) Rv.nil) rfl rfl
 ·replace h := iff_ hq1 h
  refine J_skip ?_
  refine KJ_nrm_then (KJ_J ?_)
  refine J_seq ?_
  refine J_seq ?_
  refine J_region ?_
  refine JLp (T_move rfl) rfl (nofun) .none ?_
  refine JLp (T_len (ρ := (Rep.int .u8)) sl26 (.mk rfl)) rfl (nofun) .none ?_
  refine JLp (T_move rfl) rfl (nofun) .none ?_
  refine JL_nil ?_
  refine KJ_nrm_then (KJ_J ?_)
  replace h := bnd h; obtain ⟨o4, ho5, h⟩ := h
  have ho5c := capN_some ho5
  refine J_cuto o4 (fun (s2 : Unit) (g3 : Unit) => []) (fun s2 g3 => R) ?_ ?_
  ·refine J_block ?_
   refine J_count (n := (a0.length : Int)) ho5c.2 (by decide) ho5c.1 (fun i9 (s2 : Unit) (g3 : Unit) => [(0, (Rep.sl (Rep.int .u8) 1).at a0), (1, (Rep.sl (Rep.int .u8) 1).at a1), (12, (Rep.int .i64).at (a0.length : Int)), (13, (Rep.int .i64).at i9)]) (fun i9 s2 g3 => R) () (.cons rfl (.cons rfl (.cons rfl (.cons rfl (.nil _))))) rfl ?_ ?_
   ·intro i9 s2 g3 hi ho5n
    refine J_seq (J_region (JLp (T_lss rfl rfl) rfl (nofun) .none (JL_nil (KJ_nrm_then (KJ_J ?_)))))
    refine J_seq (J_test rfl (fun hp => absurd (of_decide_eq_true hp) (by omega)) (fun _ => J_exit (KJ_exit_then (KJ_exit_then (KJ_exit_here (KJ_nrm_kq ?_))))))
    exact KJ_ot s2 g3 ho5n (.nil _) rfl
   ·intro i9 s2 g3 st8 hi10 hj11 hw12 hb6 hf7
    refine J_seq (J_region (JLp (T_lss rfl rfl) rfl (nofun) .none (JL_nil (KJ_nrm_then (KJ_J ?_)))))
    refine J_seq (J_test rfl (fun _ => J_skip (KJ_nrm_then (KJ_J ?_))) (fun hp => absurd hj11 (of_decide_eq_false hp)))
    refine J_seq ?_
    refine J_block ?_
    refine J_seq ?_
    refine J_region ?_
    refine JLp (T_move rfl) rfl (nofun) .none ?_
    refine JLp (T_assign rfl) rfl (nofun) .none ?_
    refine JL_nil ?_
    refine KJ_nrm_then (KJ_J ?_)
    refine J_seq ?_
    replace hb6 := bnd hb6; obtain ⟨x13, hx13, hb6⟩ := hb6
    replace hb6 := bnd hb6; obtain ⟨x14, hx14, hb6⟩ := hb6
    refine J_drawR (Ks := []) rfl (by kernel_rfl) fun K hK => ?_
    refine DR.p (.base (t := 0) rfl .nil) (T_move rfl) .none rfl rfl (nofun) ?_
    refine DR.p (.base (t := 5) rfl .nil) (T_move rfl) .none rfl rfl (nofun) ?_
    refine DR.p (.dep 0 1 rfl rfl rfl (.dep 1 0 rfl rfl rfl .nil)) (T_ix sl26 (.mk rfl) rfl hx13) .none rfl rfl (nofun) ?_
    refine DR.p (.dep 2 0 rfl rfl rfl .nil) (T_load ty5 rfl) .none rfl rfl (nofun) ?_
    refine DR.p (.base (t := 1) rfl .nil) (T_move rfl) .none rfl rfl (nofun) ?_
    refine DR.p (.base (t := 5) rfl .nil) (T_move rfl) .none rfl rfl (nofun) ?_
    refine DR.p (.dep 4 1 rfl rfl rfl (.dep 5 0 rfl rfl rfl .nil)) (T_ix sl26 (.mk rfl) rfl hx14) .none rfl rfl (nofun) ?_
    refine DR.p (.dep 6 0 rfl rfl rfl .nil) (T_load ty5 rfl) .none rfl rfl (nofun) ?_
    refine DR.tail (by kernel_rfl) (.refl _) rfl ?_
    simp only [List.reverse_cons, List.reverse_nil, List.nil_append, List.cons_append, DT]
    refine JLp (T_neq rfl rfl) rfl (nofun) .none ?_
    refine JL_nil (KJ_hid hK ?_)
    refine KJ_nrm_then (KJ_J ?_)
    refine J_test rfl (fun hq15 => ?_) (fun hq15 => ?_)
    ·replace hb6 := ift hq15 hb6
     refine J_seq ?_
     refine J_region ?_
     refine JLp (T_assign rfl) rfl (nofun) .none ?_
     refine JL_nil ?_
     refine KJ_nrm_then (KJ_J ?_)
     refine J_ret ?_
     refine KJ_ret_blk ?_
     refine KJ_ret_then ?_
     refine KJ_ret_then ?_
     refine KJ_ret_blk ?_
     refine KJ_ret_kq ?_
     refine KJ_ret_then ?_
     obtain rfl := inj hb6
     have hf7' := hf7
     obtain rfl : o4 = _ := hf7'
     replace h : some _ = some _ := h
     obtain rfl := inj h
     exact KJ_ret1' Try.results74 (.tmp (.mk rfl) Rv.nil) rfl rfl
    ·replace hb6 := iff_ hq15 hb6
     refine J_skip ?_
     refine KJ_nrm_blk ?_
     refine KJ_nrm_then (KJ_J ?_)
     refine J_region ?_
     refine JLp (T_addw rfl rfl hw12) rfl (nofun) .none ?_
     refine JLp (T_move rfl) rfl (nofun) .none ?_
     refine JL_nil ?_
     refine KJ_nrm_then ?_
     exact KJ_nx () () (inj hb6) (.cons rfl (.cons rfl (.cons rfl (.cons rfl (.nil _))))) rfl
  ·intro s2 g3 hs
   subst hs
   replace h := thn h
   refine KJ_nrm_then (KJ_J ?_)
   refine J_seq ?_
   refine J_region ?_
   refine JLp (T_assign rfl) rfl (nofun) .none ?_
   refine JL_nil ?_
   refine KJ_nrm_then (KJ_J ?_)
   refine J_ret ?_
   obtain rfl := inj h
   exact KJ_ret1' Try.results74 (.tmp (.mk rfl) Rv.nil) rfl rfl
end Go.Proofs.Ytogflgcngfghpaa
end
section
set_option maxHeartbeats 4000000
set_option linter.unusedVariables false
set_option linter.unusedSimpArgs false
namespace Go.Proofs.Ytogflgcngfghpaa
open Go.J
def f_compare_walk_nodes (a0 : compare_walk) : Option (List Int) :=
 (idx a0.Walk.Tree.Levels a0.Walk.Level).bind fun x1 => some x1
theorem c_compare_walk_nodes {a0 : compare_walk} {b0 : Nat} {r : List Int} (h : f_compare_walk_nodes a0 = some r) : Ct Try.prog 75 [Rep.ptr.at (b0, 0)] [Ent.box b0 r_compare_walk a0] (fun _ : Unit => (Rep.sl (Rep.int .u64) 1).at r) (fun _ => [Ent.box b0 r_compare_walk a0]) := by
 refine Ct.mk Try.func75 rfl Try.ntmps75 (by simp) fun I R => ?_
 unfold f_compare_walk_nodes at h
 refine J_seq ?_
 refine J_region ?_
 refine JLp (T_assign rfl) rfl (nofun) .none ?_
 refine JL_nil ?_
 refine KJ_nrm_then (KJ_J ?_)
 refine J_seq ?_
 refine J_drawR (Ks := []) rfl (by kernel_rfl) fun K hK => ?_
 refine DR.p (.base (t := 0) rfl .nil) (T_move rfl) .none rfl rfl (nofun) ?_
 refine DR.p (.dep 0 0 rfl rfl rfl .nil) (T_nilchk rfl) .none rfl rfl (nofun) ?_
 refine DR.p (.dep 1 0 rfl rfl rfl .nil) (T_faddr fo98_0 rfl) .none rfl rfl (nofun) ?_
 refine DR.p (.dep 2 0 rfl rfl rfl .nil) (T_faddr fo41_0 rfl) .none rfl rfl (nofun) ?_
 refine DR.p (.dep 3 0 rfl rfl rfl .nil) (T_faddr fo24_2 rfl) .none rfl rfl (nofun) ?_
 refine DR.p (.dep 4 0 rfl rfl rfl .nil) (T_loadb ty22 rfl (HasF.comp (HasF.comp hf_compare_walk_Walk hf_api_Walk_Tree) hf_api_Tree_Levels)) .none rfl rfl B0 ?_
 refine DR.p (.base (t := 0) rfl .nil) (T_move rfl) .none rfl rfl (nofun) ?_
 refine DR.p (.dep 6 0 rfl rfl rfl .nil) (T_nilchk rfl) .none rfl rfl (nofun) ?_
 refine DR.p (.dep 7 0 rfl rfl rfl .nil) (T_faddr fo98_0 rfl) .none rfl rfl (nofun) ?_
 refine DR.p (.dep 8 0 rfl rfl rfl .nil) (T_faddr fo41_2 rfl) .none rfl rfl (nofun) ?_
 refine DR.p (.dep 9 0 rfl rfl rfl .nil) (T_loadb ty3 rfl (HasF.comp hf_compare_walk_Walk hf_api_Walk_Level)) .none rfl rfl B0 ?_
 refine DR.tail (by kernel_rfl) (.refl _) rfl ?_
 simp only [List.reverse_cons, List.reverse_nil, List.nil_append, List.cons_append, DT]
 replace h := bnd h; obtain ⟨x1, hx1, h⟩ := h
 refine JLp (T_ix sl22 (.mk rfl) rfl hx1) rfl (nofun) .none ?_
 refine JLp (T_load ty67 rfl) rfl (nofun) .none ?_
 refine JLp (T_assign rfl) rfl (nofun) .none ?_
 refine JL_nil (KJ_hid hK ?_)
 refine KJ_nrm_then (KJ_J ?_)
 refine J_ret ?_
 obtain rfl := inj h
 exact KJ_ret1c () [] rfl Try.results75 (.tmp (.mk rfl) Rv.nil) rfl rfl
theorem c_compare_walk_nodes_h0_1 {a0 : compare_walk} {b0 : Nat} {h_0 : Go.Value} {r : List Int} (h : f_compare_walk_nodes a0 = some r) : Ct Try.prog 75 [Rep.ptr.at (b0, 0)] [Ent.box b0 r_compare_walk_h0_1 (a0, h_0)] (fun _ : Unit => (Rep.sl (Rep.int .u64) 1).at r) (fun _ => [Ent.box b0 r_compare_walk_h0_1 (a0, h_0)]) := by
 refine Ct.mk Try.func75 rfl Try.ntmps75 (by simp) fun I R => ?_
 unfold f_compare_walk_nodes at h
 refine J_seq ?_
 refine J_region ?_
 refine JLp (T_assign rfl) rfl (nofun) .none ?_
 refine JL_nil ?_
 refine KJ_nrm_then (KJ_J ?_)
 refine J_seq ?_
 refine J_drawR (Ks := []) rfl (by kernel_rfl) fun K hK => ?_
 refine DR.p (.base (t := 0) rfl .nil) (T_move rfl) .none rfl rfl (nofun) ?_
 refine DR.p (.dep 0 0 rfl rfl rfl .nil) (T_nilchk rfl) .none rfl rfl (nofun) ?_
 refine DR.p (.dep 1 0 rfl rfl rfl .nil) (T_faddr fo98_0 rfl) .none rfl rfl (nofun) ?_
 refine DR.p (.dep 2 0 rfl rfl rfl .nil) (T_faddr fo41_0 rfl) .none rfl rfl (nofun) ?_
 refine DR.p (.dep 3 0 rfl rfl rfl .nil) (T_faddr fo24_2 rfl) .none rfl rfl (nofun) ?_
 refine DR.p (.dep 4 0 rfl rfl rfl .nil) (T_loadb ty22 rfl (HasF.comp hf_compare_walk_h0_1_Walk (HasF.comp hf_api_Walk_h1_Tree hf_api_Tree_Levels))) .none rfl rfl B0 ?_
 refine DR.p (.base (t := 0) rfl .nil) (T_move rfl) .none rfl rfl (nofun) ?_
 refine DR.p (.dep 6 0 rfl rfl rfl .nil) (T_nilchk rfl) .none rfl rfl (nofun) ?_
 refine DR.p (.dep 7 0 rfl rfl rfl .nil) (T_faddr fo98_0 rfl) .none rfl rfl (nofun) ?_
 refine DR.p (.dep 8 0 rfl rfl rfl .nil) (T_faddr fo41_2 rfl) .none rfl rfl (nofun) ?_
 refine DR.p (.dep 9 0 rfl rfl rfl .nil) (T_loadb ty3 rfl (HasF.comp hf_compare_walk_h0_1_Walk hf_api_Walk_h1_Level)) .none rfl rfl B0 ?_
 refine DR.tail (by kernel_rfl) (.refl _) rfl ?_
 simp only [List.reverse_cons, List.reverse_nil, List.nil_append, List.cons_append, DT]
 replace h := bnd h; obtain ⟨x1, hx1, h⟩ := h
 refine JLp (T_ix sl22 (.mk rfl) rfl hx1) rfl (nofun) .none ?_
 refine JLp (T_load ty67 rfl) rfl (nofun) .none ?_
 refine JLp (T_assign rfl) rfl (nofun) .none ?_
 refine JL_nil (KJ_hid hK ?_)
 refine KJ_nrm_then (KJ_J ?_)
 refine J_ret ?_
 obtain rfl := inj h
 exact KJ_ret1c () [] rfl Try.results75 (.tmp (.mk rfl) Rv.nil) rfl rfl
end Go.Proofs.Ytogflgcngfghpaa
end
section
set_option maxHeartbeats 4000000
set_option linter.unusedVariables false
set_option linter.unusedSimpArgs false
namespace Go.Proofs.Ytogflgcngfghpaa
open Go.J
def f_compare_walk_differing (a0 : compare_walk) (a1 : List Int) : Option ((List Int) × compare_walk) :=
 (f_compare_numbers a0.Walk.Pending).bind fun x3 => (eachN (σ := compare_walk × List Int × List Int) (fun x6 s4 => (slc s4.2.1 0 8).bind fun x11 => (f_compare_walk_nodes s4.1).bind fun x12 => (idx x12 x6).bind fun x13 => (f_compare_put x13).bind fun x14 => (f_slices_Equal_byte_byte x11 x14).bind fun x15 => ((if (!x15) = true then (app 8 s4.2.2 [x6]).bind fun x21 => some (Fl.go x21) else some (Fl.go s4.2.2) : Option (Fl (List Int) (Rd (compare_walk × List Int × List Int) Empty)))).bind fun o17 => o17.then fun s19 => (slc s4.2.1 8 (s4.2.1.length : Int)).bind fun x23 => some (Rd.next ((⟨(⟨s4.1.Walk.Tree, s4.1.Walk.Pending, s4.1.Walk.Level, s4.1.Walk.Found, IntKind.i64.wrap (s4.1.Walk.Sent + 1), s4.1.Walk.Done⟩ : api_Walk)⟩ : compare_walk), x23, s19))) x3 (a0, a1, [])).bind fun so7 => some (so7.2.2, so7.1)
theorem c_compare_walk_differing {a0 : compare_walk} {a1 : List Int} {b0 : Nat} {r : (List Int) × compare_walk} (h : f_compare_walk_differing a0 a1 = some r) : Ct Try.prog 46 [Rep.ptr.at (b0, 0), (Rep.sl (Rep.int .u8) 1).at a1] [Ent.box b0 r_compare_walk a0] (fun _ : Unit => (Rep.sl (Rep.int .i64) 1).at r.1) (fun _ => [Ent.box b0 r_compare_walk r.2]) := by
 refine Ct.mkM Try.func46 rfl Try.ntmps46 (by simp) fun I R => ?_
 unfold f_compare_walk_differing at h
 refine J_seq ?_
 refine J_region ?_
 refine JLe0 (T_box (ρ := Rep.ptr) (.mk rfl)) rfl .none ?_
 refine JLa (T_boxm (.mk rfl) (Lay.sl _ _)) rfl .none fun b1 => ?_
 refine JLp (T_assign rfl) rfl (nofun) .none ?_
 refine JL_nil ?_
 refine KJ_nrm_then (KJ_J ?_)
 refine J_seq ?_
 refine J_region ?_
 refine JLa (T_alloc zv25 Lay.slv) rfl .none fun b2 => ?_
 refine JL_nil ?_
 refine KJ_nrm_then (KJ_J ?_)
 refine J_seq ?_
 refine J_seq ?_
 refine J_region ?_
 refine JLp (T_load ty96 rfl) rfl (nofun) .none ?_
 refine JLp (T_nilchk rfl) rfl (nofun) .none ?_
 refine JLp (T_faddr fo98_0 rfl) rfl (nofun) .none ?_
 refine JLp (T_faddr fo41_1 rfl) rfl (nofun) .none ?_
 refine JLp (T_loadb ty39 rfl (HasF.comp hf_compare_walk_Walk hf_api_Walk_Pending)) rfl B2 .none ?_
 replace h := bnd h; obtain ⟨x3, hx3, h⟩ := h
 refine JLe0 (T_call ⟨_, Try.func36, rfl, rfl⟩ (c_compare_numbers hx3) ⟨(.mk rfl), trivial⟩) rfl .none ?_
 refine JL_nil ?_
 refine KJ_nrm_then (KJ_J ?_)
 refine J_rownil 3 1 (Rep.int .i64) ?_
 replace h := bnd h; obtain ⟨so7, ho8, h⟩ := h
 refine J_rforN ho8 [(2, (Rep.iptr Rep.ptr).at (b0, 0)), (3, Rep.ptr.at (b1, 0)), (5, Rep.ptr.at (b2, 0)), (12, (Rep.iter Try.prog (Rep.int .i64)).at x3)] (fun x6 (gx : Unit) => [(2, (Rep.iptr Rep.ptr).at (b0, 0)), (3, Rep.ptr.at (b1, 0)), (5, Rep.ptr.at (b2, 0)), (12, (Rep.iter Try.prog (Rep.int .i64)).at x3), (6, (Rep.int .i64).at x6)]) (fun x6 gx => []) (fun (s4 : compare_walk × List Int × List Int) (g5 : Value) => [Ent.row g5 3 1 (Rep.int .i64) s4.2.2, Ent.box b2 Rep.slv g5, Ent.box b1 (Rep.sl (Rep.int .u8) 1) s4.2.1, Ent.box b0 r_compare_walk s4.1]) (.slice none 0 0) rfl (.mk rfl) (.cons rfl (.cons rfl (.cons rfl (.cons rfl (.nil _))))) rfl rfl ?_ ?_ ?_
 ·intro l I1 R1 x6 s4 g5
  refine J_region ?_
  refine JLp (T_assign rfl) rfl (nofun) .none ?_
  refine JL_nil ?_
  exact KJ_rfa () (.cons rfl (.cons rfl (.cons rfl (.cons rfl (.cons rfl (.nil _)))))) rfl
 ·intro l I1 R1 x6 gx s4 g5 st10 hb9
  refine J_block ?_
  refine J_seq ?_
  refine J_seq ?_
  replace hb9 := bnd hb9; obtain ⟨x11, hx11, hb9⟩ := hb9
  replace hb9 := bnd hb9; obtain ⟨x12, hx12, hb9⟩ := hb9
  replace hb9 := bnd hb9; obtain ⟨x13, hx13, hb9⟩ := hb9
  replace hb9 := bnd hb9; obtain ⟨x14, hx14, hb9⟩ := hb9
  refine J_drawR (Ks := []) rfl (by kernel_rfl) fun K hK => ?_
  refine DR.p (.base (t := 3) rfl .nil) (T_loadw ty26 rfl) .none rfl rfl B2 ?_
  refine DR.p (.dep 0 0 rfl rfl rfl .nil) (T_slice_h sl26 (.mk rfl) rfl hx11) .none rfl rfl (nofun) ?_
  refine DR.p (.base (t := 2) rfl .nil) (T_load ty96 rfl) .none rfl rfl (nofun) ?_
  refine DR.b (.dep 2 0 rfl rfl rfl .nil) (T_call ⟨_, Try.func75, rfl, rfl⟩ (c_compare_walk_nodes hx12) ⟨.mk rfl, trivial⟩) .none rfl rfl B3 ?_
  refine DR.p (.base (t := 6) rfl .nil) (T_move rfl) .none rfl rfl (nofun) ?_
  refine DR.p (.dep 3 1 rfl rfl rfl (.dep 4 0 rfl rfl rfl .nil)) (T_ix sl67 (.mk rfl) rfl hx13) .none rfl rfl (nofun) ?_
  refine DR.p (.dep 5 0 rfl rfl rfl .nil) (T_load ty73 rfl) .none rfl rfl (nofun) ?_
  refine DR.e (.dep 6 0 rfl rfl rfl .nil) (T_call ⟨_, Try.func37, rfl, rfl⟩ (c_compare_put hx14) ⟨(.mk rfl), trivial⟩) .none rfl rfl ?_
  refine DR.tail (by kernel_rfl) (.refl _) rfl ?_
  simp only [List.reverse_cons, List.reverse_nil, List.nil_append, List.cons_append, DT]
  replace hb9 := bnd hb9; obtain ⟨x15, hx15, hb9⟩ := hb9
  refine JLe0 (T_call ⟨_, Try.func74, rfl, rfl⟩ (c_slices_Equal_byte_byte hx15) ⟨(.mk rfl), ⟨(.mk rfl), trivial⟩⟩) rfl .none ?_
  refine JLp (T_not rfl) rfl (nofun) .none ?_
  refine JL_nil (KJ_hid hK ?_)
  refine KJ_nrm_then (KJ_J ?_)
  replace hb9 := bnd hb9; obtain ⟨o17, ho18, hb9⟩ := hb9
  refine J_cuto o17 (fun (s19 : List Int) (g20 : Value) => [(2, (Rep.iptr Rep.ptr).at (b0, 0)), (3, Rep.ptr.at (b1, 0))]) (fun s19 g20 => Ent.row g20 3 1 (Rep.int .i64) s19 :: Ent.box b2 Rep.slv g20 :: Ent.box b1 (Rep.sl (Rep.int .u8) 1) s4.2.1 :: Ent.box b0 r_compare_walk s4.1 :: R1) ?_ ?_
  ·refine J_test rfl (fun hq16 => ?_) (fun hq16 => ?_)
   ·replace ho18 := ift hq16 ho18
    refine J_region ?_
    refine JLp (T_loadw tv25 rfl) rfl B1 .none ?_
    refine JLp (T_move rfl) rfl (nofun) .none ?_
    refine JLe0 (T_bslice (ρ := (Rep.int .i64)) sl25 (Lay.int _) (.cons (.mk rfl) .nil) rfl (by decide)) rfl .none ?_
    replace ho18 := bnd ho18; obtain ⟨x21, hx21, ho18⟩ := ho18
    refine JLe1 (T_append sl25 ⟨_, (Lay.int _)⟩ (.mk rfl) (.mk rfl) hx21) rfl .none fun g22 => ?_
    refine JL.perm F1 ?_
    refine JLn1 (T_store tv25 rfl (.mk rfl) (SetF.self Lay.slv)) .none ?_
    refine JL_nil ?_
    refine KJ_nrm_kq ?_
    refine KJ.perm F3 ?_
    refine KJ.perm F3 ?_
    refine KJ.perm F2 ?_
    refine KJ.perm F3 ?_
    exact KJ_ot x21 g22 (inj ho18) (.cons rfl (.cons rfl (.nil _))) rfl
   ·replace ho18 := iff_ hq16 ho18
    refine J_skip ?_
    refine KJ_nrm_kq ?_
    exact KJ_ot s4.2.2 g5 (inj ho18) (.cons rfl (.cons rfl (.nil _))) rfl
  ·intro s19 g20 hs
   subst hs
   replace hb9 := thn hb9
   refine KJ_nrm_then (KJ_J ?_)
   refine J_seq ?_
   refine J_region ?_
   refine JLp (T_loadw ty26 rfl) rfl B2 .none ?_
   replace hb9 := bnd hb9; obtain ⟨x23, hx23, hb9⟩ := hb9
   refine JLp (T_slice_l sl26 (.mk rfl) rfl hx23) rfl (nofun) .none ?_
   refine JL.perm F2 ?_
   refine JLn1 (T_store ty26 rfl (.mk rfl) (SetF.self (Lay.sl _ _))) .none ?_
   refine JL_nil ?_
   refine KJ_nrm_then (KJ_J ?_)
   refine J_region ?_
   refine JLp (T_load ty96 rfl) rfl (nofun) .none ?_
   refine JLp (T_nilchk rfl) rfl (nofun) .none ?_
   refine JLp (T_faddr fo98_0 rfl) rfl (nofun) .none ?_
   refine JLp (T_faddr fo41_4 rfl) rfl (nofun) .none ?_
   refine JLp (T_loadb ty3 rfl (HasF.comp hf_compare_walk_Walk hf_api_Walk_Sent)) rfl B3 .none ?_
   refine JLp (T_add rfl rfl) rfl (nofun) .none ?_
   refine JLp (T_nilchk rfl) rfl (nofun) .none ?_
   refine JLp (T_faddr fo98_0 rfl) rfl (nofun) .none ?_
   refine JLp (T_faddr fo41_4 rfl) rfl (nofun) .none ?_
   refine JL.perm F3 ?_
   refine JLn1 (T_storeV (⟨(⟨s4.1.Walk.Tree, s4.1.Walk.Pending, s4.1.Walk.Level, s4.1.Walk.Found, IntKind.i64.wrap (s4.1.Walk.Sent + 1), s4.1.Walk.Done⟩ : api_Walk)⟩ : compare_walk) ty3 rfl (.mk rfl) (SetF.comp lay_api_Walk sf_compare_walk_Walk hf_compare_walk_Walk sf_api_Walk_Sent) rfl) .none ?_
   refine JL_nil ?_
   refine KJ_nrm_blk ?_
   refine KJ.perm F1 ?_
   refine KJ.perm F3 ?_
   refine KJ.perm F3 ?_
   exact KJ_rq ((⟨(⟨s4.1.Walk.Tree, s4.1.Walk.Pending, s4.1.Walk.Level, s4.1.Walk.Found, IntKind.i64.wrap (s4.1.Walk.Sent + 1), s4.1.Walk.Done⟩ : api_Walk)⟩ : compare_walk), x23, s19) g20 (inj hb9) rfl
 ·intro r24 g5
  refine KJ_nrm_then (KJ_J ?_)
  refine J_seq ?_
  refine J_region ?_
  refine JLp (T_loadw tv25 rfl) rfl B2 .none ?_
  refine JLp (T_assign rfl) rfl (nofun) .none ?_
  refine JL_nil ?_
  refine KJ_nrm_then (KJ_J ?_)
  refine J_ret ?_
  refine KJ.perm F1 ?_
  refine KJ_freeze (t := 4) rfl ?_
  obtain rfl := inj h
  exact KJ_retM1 (M := [Ent.mark r24]) (J := [Ent.box b2 Rep.slv g5, Ent.box b1 (Rep.sl (Rep.int .u8) 1) so7.2.1]) () (marks.cons marks.nil) rfl Try.results46 (.tmp (.mk rfl) Rv.nil) rfl
end Go.Proofs.Ytogflgcngfghpaa
end
section
set_option maxHeartbeats 4000000
set_option linter.unusedVariables false
set_option linter.unusedSimpArgs false
namespace Go.Proofs.Ytogflgcngfghpaa
open Go.J
def f_compare_walk_finish (a0 : compare_walk) : Option (compare_walk) :=
 some (⟨(⟨a0.Walk.Tree, [], 0, a0.Walk.Found, a0.Walk.Sent, true⟩ : api_Walk)⟩ : compare_walk)
theorem c_compare_walk_finish {a0 : compare_walk} {b0 : Nat} {r : compare_walk} (h : f_compare_walk_finish a0 = some r) : Ct Try.prog 48 [Rep.ptr.at (b0, 0)] [Ent.box b0 r_compare_walk a0] (fun _ : Unit => Pr.tup []) (fun _ => [Ent.box b0 r_compare_walk r]) := by
 refine Ct.mk Try.func48 rfl Try.ntmps48 (by simp) fun I R => ?_
 unfold f_compare_walk_finish at h
 refine J_region ?_
 refine JLp (T_move rfl) rfl (nofun) .none ?_
 refine JLp (T_move rfl) rfl (nofun) .none ?_
 refine JLp (T_move rfl) rfl (nofun) .none ?_
 refine JLp (T_nilchk rfl) rfl (nofun) .none ?_
 refine JLp (T_faddr fo98_0 rfl) rfl (nofun) .none ?_
 refine JLp (T_faddr fo41_2 rfl) rfl (nofun) .none ?_
 refine JLn1 (T_storeV (⟨(⟨a0.Walk.Tree, a0.Walk.Pending, 0, a0.Walk.Found, a0.Walk.Sent, a0.Walk.Done⟩ : api_Walk)⟩ : compare_walk) ty3 rfl (.mk rfl) (SetF.comp lay_api_Walk sf_compare_walk_Walk hf_compare_walk_Walk sf_api_Walk_Level) rfl) .none ?_
 refine JLp (T_nilchk rfl) rfl (nofun) .none ?_
 refine JLp (T_faddr fo98_0 rfl) rfl (nofun) .none ?_
 refine JLp (T_faddr fo41_1 rfl) rfl (nofun) .none ?_
 refine JLn1 (T_storeV (⟨(⟨a0.Walk.Tree, [], 0, a0.Walk.Found, a0.Walk.Sent, a0.Walk.Done⟩ : api_Walk)⟩ : compare_walk) ty39 rfl (.nilc rfl) (SetF.comp lay_api_Walk sf_compare_walk_Walk hf_compare_walk_Walk sf_api_Walk_Pending) rfl) .none ?_
 refine JLp (T_nilchk rfl) rfl (nofun) .none ?_
 refine JLp (T_faddr fo98_0 rfl) rfl (nofun) .none ?_
 refine JLp (T_faddr fo41_5 rfl) rfl (nofun) .none ?_
 refine JLn1 (T_storeV (⟨(⟨a0.Walk.Tree, [], 0, a0.Walk.Found, a0.Walk.Sent, true⟩ : api_Walk)⟩ : compare_walk) ty4 rfl (.mk rfl) (SetF.comp lay_api_Walk sf_compare_walk_Walk hf_compare_walk_Walk sf_api_Walk_Done) rfl) .none ?_
 refine JL_nil ?_
 refine KJ_end_body ?_
 obtain rfl := inj h
 exact KJ_retnc () [] rfl Try.results48 Rv.nil rfl (by simp) rfl
end Go.Proofs.Ytogflgcngfghpaa
end
section
set_option maxHeartbeats 4000000
set_option linter.unusedVariables false
set_option linter.unusedSimpArgs false
namespace Go.Proofs.Ytogflgcngfghpaa
open Go.J
def f_compare_walk_find (a0 : compare_walk) (a1 : List Int) : Option (compare_walk) :=
 (rangeF (σ := List api_Extent) (ρ := compare_walk) (fun i8 x12 s1 => (app 16 s1 [(⟨IntKind.i64.wrap (x12 * a0.Walk.Tree.Leaf), min a0.Walk.Tree.Leaf (IntKind.i64.wrap (a0.Walk.Tree.Size - (IntKind.i64.wrap (x12 * a0.Walk.Tree.Leaf))))⟩ : api_Extent)]).bind fun x14 => some (Rd.next x14)) a1 0 []).bind fun o3 => o3.then fun s1 => (f_extent_Union s1 []).bind fun x16 => (f_compare_walk_finish (⟨(⟨a0.Walk.Tree, a0.Walk.Pending, a0.Walk.Level, x16, a0.Walk.Sent, a0.Walk.Done⟩ : api_Walk)⟩ : compare_walk)).bind fun x17 => some x17
theorem c_compare_walk_find {a0 : compare_walk} {a1 : List Int} {b0 : Nat} {r : compare_walk} (h : f_compare_walk_find a0 a1 = some r) : Ct Try.prog 47 [Rep.ptr.at (b0, 0), (Rep.sl (Rep.int .i64) 1).at a1] [Ent.box b0 r_compare_walk a0] (fun _ : Unit => Pr.tup []) (fun _ => [Ent.box b0 r_compare_walk r]) := by
 refine Ct.mk Try.func47 rfl Try.ntmps47 (by simp) fun I R => ?_
 unfold f_compare_walk_find at h
 refine J_seq ?_
 refine J_region ?_
 refine JLp (T_move rfl) rfl (nofun) .none ?_
 refine JLp (T_nilchk rfl) rfl (nofun) .none ?_
 refine JLp (T_faddr fo98_0 rfl) rfl (nofun) .none ?_
 refine JLp (T_faddr fo41_3 rfl) rfl (nofun) .none ?_
 refine JLn1 (T_storeV (⟨(⟨a0.Walk.Tree, a0.Walk.Pending, a0.Walk.Level, [], a0.Walk.Sent, a0.Walk.Done⟩ : api_Walk)⟩ : compare_walk) ty39 rfl (.nilc rfl) (SetF.comp lay_api_Walk sf_compare_walk_Walk hf_compare_walk_Walk sf_api_Walk_Found) rfl) .none ?_
 refine JL_nil ?_
 refine KJ_nrm_then (KJ_J ?_)
 refine J_seq ?_
 refine J_region ?_
 refine JLp (T_assign rfl) rfl (nofun) .none ?_
 refine JL_nil ?_
 refine KJ_nrm_then (KJ_J ?_)
 refine J_seq ?_
 refine J_seq ?_
 refine J_region ?_
 refine JLp (T_move rfl) rfl (nofun) .none ?_
 refine JLp (T_len (ρ := (Rep.int .i64)) sl25 (.mk rfl)) rfl (nofun) .none ?_
 refine JLp (T_move rfl) rfl (nofun) .none ?_
 refine JL_nil ?_
 refine KJ_nrm_then (KJ_J ?_)
 refine J_rownil 62 2 r_api_Extent ?_
 replace h := bnd h; obtain ⟨o3, ho4, h⟩ := h
 refine J_cuto o3 (fun (s1 : List api_Extent) (g2 : Value) => [(0, Rep.ptr.at (b0, 0)), (4, Rep.slv.at g2)]) (fun s1 g2 => Ent.row g2 62 2 r_api_Extent s1 :: Ent.box b0 r_compare_walk (⟨(⟨a0.Walk.Tree, a0.Walk.Pending, a0.Walk.Level, [], a0.Walk.Sent, a0.Walk.Done⟩ : api_Walk)⟩ : compare_walk) :: R) ?_ ?_
 ·refine J_block ?_
  refine J_lim (ρ := (Rep.int .i64)) (n := 1) (l := a1) (x := .tmp 12) (.mk rfl) fun hl => ?_
  refine J_range ho4 hl (fun i8 (s1 : List api_Extent) (g2 : Value) => [(0, Rep.ptr.at (b0, 0)), (12, (Rep.sl (Rep.int .i64) 1).at a1), (13, (Rep.int .i64).at (a1.length : Int)), (4, Rep.slv.at g2), (14, (Rep.int .i64).at i8)]) (fun i8 s1 g2 => Ent.row g2 62 2 r_api_Extent s1 :: Ent.box b0 r_compare_walk (⟨(⟨a0.Walk.Tree, a0.Walk.Pending, a0.Walk.Level, [], a0.Walk.Sent, a0.Walk.Done⟩ : api_Walk)⟩ : compare_walk) :: R) (.slice none 0 0) (.cons rfl (.cons rfl (.cons rfl (.cons rfl (.cons rfl (.nil _)))))) rfl ?_ ?_
  ·intro s1 g2 ho4n
   refine J_seq (J_region (JLp (T_lss rfl rfl) rfl (nofun) .none (JL_nil (KJ_nrm_then (KJ_J ?_)))))
   refine J_seq (J_test rfl (fun hp => absurd (of_decide_eq_true hp) (by omega)) (fun _ => J_exit (KJ_exit_then (KJ_exit_then (KJ_exit_here (KJ_nrm_kq ?_))))))
   exact KJ_ot s1 g2 ho4n (.cons rfl (.cons rfl (.nil _))) rfl
  ·intro i8 x12 s1 g2 st7 hi9 hj10 hx13 hw11 hb5 hf6
   refine J_seq (J_region (JLp (T_lss rfl rfl) rfl (nofun) .none (JL_nil (KJ_nrm_then (KJ_J ?_)))))
   refine J_seq (J_test rfl (fun _ => J_skip (KJ_nrm_then (KJ_J ?_))) (fun hp => absurd hj10 (of_decide_eq_false hp)))
   refine J_seq ?_
   refine J_block ?_
   refine J_seq ?_
   refine J_region ?_
   refine JLp (T_ix sl25 (.mk rfl) rfl hx13) rfl (nofun) .none ?_
   refine JLp (T_load ty3 rfl) rfl (nofun) .none ?_
   refine JLp (T_assign rfl) rfl (nofun) .none ?_
   refine JL_nil ?_
   refine KJ_nrm_then (KJ_J ?_)
   refine J_seq ?_
   refine J_region ?_
   refine JLp (T_move rfl) rfl (nofun) .none ?_
   refine JLp (T_move rfl) rfl (nofun) .none ?_
   refine JLp (T_nilchk rfl) rfl (nofun) .none ?_
   refine JLp (T_faddr fo98_0 rfl) rfl (nofun) .none ?_
   refine JLp (T_faddr fo41_0 rfl) rfl (nofun) .none ?_
   refine JLp (T_faddr fo24_1 rfl) rfl (nofun) .none ?_
   refine JLp (T_loadb ty3 rfl (HasF.comp (HasF.comp hf_compare_walk_Walk hf_api_Walk_Tree) hf_api_Tree_Leaf)) rfl B1 .none ?_
   refine JLp (T_mul rfl rfl) rfl (nofun) .none ?_
   refine JLp (T_assign rfl) rfl (nofun) .none ?_
   refine JL_nil ?_
   refine KJ_nrm_then (KJ_J ?_)
   refine J_drawR (Ks := []) rfl (by kernel_rfl) fun K hK => ?_
   refine DR.p (.base (t := 4) rfl .nil) (T_move rfl) .none rfl rfl (nofun) ?_
   refine DR.p (.base (t := 7) rfl .nil) (T_move rfl) .none rfl rfl (nofun) ?_
   refine DR.p (.base (t := 0) rfl .nil) (T_move rfl) .none rfl rfl (nofun) ?_
   refine DR.p (.dep 2 0 rfl rfl rfl .nil) (T_nilchk rfl) .none rfl rfl (nofun) ?_
   refine DR.p (.dep 3 0 rfl rfl rfl .nil) (T_faddr fo98_0 rfl) .none rfl rfl (nofun) ?_
   refine DR.p (.dep 4 0 rfl rfl rfl .nil) (T_faddr fo41_0 rfl) .none rfl rfl (nofun) ?_
   refine DR.p (.dep 5 0 rfl rfl rfl .nil) (T_faddr fo24_1 rfl) .none rfl rfl (nofun) ?_
   refine DR.p (.dep 6 0 rfl rfl rfl .nil) (T_loadb ty3 rfl (HasF.comp (HasF.comp hf_compare_walk_Walk hf_api_Walk_Tree) hf_api_Tree_Leaf)) .none rfl rfl B1 ?_
   refine DR.p (.base (t := 0) rfl .nil) (T_move rfl) .none rfl rfl (nofun) ?_
   refine DR.p (.dep 8 0 rfl rfl rfl .nil) (T_nilchk rfl) .none rfl rfl (nofun) ?_
   refine DR.p (.dep 9 0 rfl rfl rfl .nil) (T_faddr fo98_0 rfl) .none rfl rfl (nofun) ?_
   refine DR.p (.dep 10 0 rfl rfl rfl .nil) (T_faddr fo41_0 rfl) .none rfl rfl (nofun) ?_
   refine DR.p (.dep 11 0 rfl rfl rfl .nil) (T_faddr fo24_0 rfl) .none rfl rfl (nofun) ?_
   refine DR.p (.dep 12 0 rfl rfl rfl .nil) (T_loadb ty3 rfl (HasF.comp (HasF.comp hf_compare_walk_Walk hf_api_Walk_Tree) hf_api_Tree_Size)) .none rfl rfl B1 ?_
   refine DR.p (.base (t := 7) rfl .nil) (T_move rfl) .none rfl rfl (nofun) ?_
   refine DR.p (.dep 13 1 rfl rfl rfl (.dep 14 0 rfl rfl rfl .nil)) (T_sub rfl rfl) .none rfl rfl (nofun) ?_
   refine DR.p (.dep 7 8 rfl rfl rfl (.dep 15 0 rfl rfl rfl .nil)) (T_min rfl rfl) .none rfl rfl (nofun) ?_
   refine DR.p (.dep 1 15 rfl rfl rfl (.dep 16 0 rfl rfl rfl .nil)) (T_build (s' := (⟨IntKind.i64.wrap (x12 * a0.Walk.Tree.Leaf), min a0.Walk.Tree.Leaf (IntKind.i64.wrap (a0.Walk.Tree.Size - (IntKind.i64.wrap (x12 * a0.Walk.Tree.Leaf))))⟩ : api_Extent)) bd62 z62 lay_api_Extent (.cons (π := (Rep.int .i64)) (.mk rfl) rfl (Lay.int _) sf_api_Extent_Start (.cons (π := (Rep.int .i64)) (.mk rfl) rfl (Lay.int _) sf_api_Extent_Count .nil))) .none rfl rfl (nofun) ?_
   refine DR.e (.dep 17 0 rfl rfl rfl .nil) (T_bslice (ρ := r_api_Extent) sl39 lay_api_Extent (.cons (.mk rfl) .nil) rfl (by decide)) .none rfl rfl ?_
   refine DR.tail (by kernel_rfl) (.refl _) rfl ?_
   simp only [List.reverse_cons, List.reverse_nil, List.nil_append, List.cons_append, DT]
   replace hb5 := bnd hb5; obtain ⟨x14, hx14, hb5⟩ := hb5
   refine JLe1 (T_append sl39 ⟨_, lay_api_Extent⟩ (.mk rfl) (.mk rfl) hx14) rfl .none fun g15 => ?_
   refine JLp (T_assign rfl) rfl (nofun) .none ?_
   refine JL_nil (KJ_hid hK ?_)
   refine KJ_nrm_blk ?_
   refine KJ_nrm_then (KJ_J ?_)
   refine J_region ?_
   refine JLp (T_addw rfl rfl hw11) rfl (nofun) .none ?_
   refine JLp (T_move rfl) rfl (nofun) .none ?_
   refine JL_nil ?_
   refine KJ_nrm_then ?_
   exact KJ_nx x14 g15 (inj hb5) (.cons rfl (.cons rfl (.cons rfl (.cons rfl (.cons rfl (.nil _)))))) rfl
 ·intro s1 g2 hs
  subst hs
  replace h := thn h
  refine KJ_nrm_then (KJ_J ?_)
  refine J_seq ?_
  refine J_region ?_
  refine JLp (T_move rfl) rfl (nofun) .none ?_
  refine JLp (T_move rfl) rfl (nofun) .none ?_
  replace h := bnd h; obtain ⟨x16, hx16, h⟩ := h
  refine JL_freeze2 48 4 rfl rfl ?_
  refine JLe0 (T_call ⟨_, Try.func60, rfl, rfl⟩ (c_extent_Union hx16) ⟨(.mk rfl), ⟨(.nilc rfl), trivial⟩⟩) rfl .none ?_
  refine JLp (T_nilchk rfl) rfl (nofun) .none ?_
  refine JLp (T_faddr fo98_0 rfl) rfl (nofun) .none ?_
  refine JLp (T_faddr fo41_3 rfl) rfl (nofun) .none ?_
  refine JLn1 (T_storeV (⟨(⟨a0.Walk.Tree, a0.Walk.Pending, a0.Walk.Level, x16, a0.Walk.Sent, a0.Walk.Done⟩ : api_Walk)⟩ : compare_walk) ty39 rfl (.mk rfl) (SetF.comp lay_api_Walk sf_compare_walk_Walk hf_compare_walk_Walk sf_api_Walk_Found) rfl) .none ?_
  refine JL_nil ?_
  refine KJ_nrm_then (KJ_J ?_)
  refine J_region ?_
  refine JLp (T_move rfl) rfl (nofun) .none ?_
  replace h := bnd h; obtain ⟨x17, hx17, h⟩ := h
  refine JLe1 (T_call ⟨_, Try.func48, rfl, rfl⟩ (c_compare_walk_finish hx17) ⟨.mk rfl, trivial⟩) rfl .none fun _ => ?_
  refine JL_nil ?_
  refine KJ_end_body ?_
  obtain rfl := inj h
  exact KJ_retnc () [] rfl Try.results47 Rv.nil rfl (by simp) rfl
end Go.Proofs.Ytogflgcngfghpaa
end
section
set_option maxHeartbeats 4000000
set_option linter.unusedVariables false
set_option linter.unusedSimpArgs false
namespace Go.Proofs.Ytogflgcngfghpaa
open Go.J
def f_compare_add (a0 : List api_Extent) (a1 : Int) : Option (List api_Extent) :=
 (if (decide (0 < (a0.length : Int))) = true then (idx a0 (IntKind.i64.wrap ((a0.length : Int) - 1))).bind fun x1 => (idx a0 (IntKind.i64.wrap ((a0.length : Int) - 1))).bind fun x2 => some (decide ((IntKind.i64.wrap (x1.Start + x2.Count)) = a1)) else some false).bind fun c3 => if c3 = true then (idx a0 (IntKind.i64.wrap ((a0.length : Int) - 1))).bind fun x5 => (idx a0 (IntKind.i64.wrap ((a0.length : Int) - 1))).bind fun x6 => some (setI a0 (IntKind.i64.wrap ((a0.length : Int) - 1)) (⟨x6.Start, IntKind.i64.wrap (x5.Count + 1)⟩ : api_Extent)) else (app 16 a0 [(⟨a1, 1⟩ : api_Extent)]).bind fun x7 => some x7
theorem c_compare_add {a0 : List api_Extent} {a1 : Int} {s0 : Value} {r : List api_Extent} (h : f_compare_add a0 a1 = some r) : Ct Try.prog 76 [Rep.slv.at s0, (Rep.int .i64).at a1] [Ent.row s0 62 2 r_api_Extent a0] (fun s : Value => Rep.slv.at s) (fun s => [Ent.row s 62 2 r_api_Extent r]) := by
 refine Ct.mk Try.func76 rfl Try.ntmps76 (by simp) fun I R => ?_
 unfold f_compare_add at h
 refine J_seq ?_
 refine J_region ?_
 refine JLp (T_assign rfl) rfl (nofun) .none ?_
 refine JL_nil ?_
 refine KJ_nrm_then (KJ_J ?_)
 refine J_seq ?_
 refine J_seq ?_
 refine J_region ?_
 refine JLp (T_move rfl) rfl (nofun) .none ?_
 refine JLp (T_len_row sl39 (.mk rfl)) rfl B0 .none ?_
 refine JLp (T_assign rfl) rfl (nofun) .none ?_
 refine JL_nil ?_
 refine KJ_nrm_then (KJ_J ?_)
 refine J_seq ?_
 replace h := bnd h; obtain ⟨c3, hc3, h⟩ := h
 refine J_cutN [(0, Rep.slv.at s0), (1, (Rep.int .i64).at a1), (5, (Rep.int .i64).at (a0.length : Int)), (26, Rep.bool.at c3)] (Ent.row s0 62 2 r_api_Extent a0 :: R) ?_ ?_
 ·rcases Bool.eq_false_or_eq_true (decide (0 < (a0.length : Int))) with hqc3 | hqc3
  ·replace hc3 := ift hqc3 hc3
   replace hc3 := bnd hc3; obtain ⟨x1, hx1, hc3⟩ := hc3
   replace hc3 := bnd hc3; obtain ⟨x2, hx2, hc3⟩ := hc3
   obtain rfl := inj hc3
   refine J_drawR (Ks := []) rfl (by kernel_rfl) fun K hK => ?_
   refine DR.p (.base (t := 5) rfl .nil) (T_move rfl) .none rfl rfl (nofun) ?_
   refine DR.p (.dep 0 0 rfl rfl rfl .nil) (T_gtr rfl rfl) .none rfl rfl (nofun) ?_
   refine DR.p (.dep 1 0 rfl rfl rfl .nil) (T_move rfl) .none rfl rfl (nofun) ?_
   refine DR.p (.base (t := 0) rfl (.dep 2 0 rfl rfl rfl .nil)) (T_move rfl) (.y rfl rfl hqc3) rfl rfl (nofun) ?_
   refine DR.p (.base (t := 5) rfl (.dep 2 1 rfl rfl rfl .nil)) (T_move rfl) (.y rfl rfl hqc3) rfl rfl (nofun) ?_
   refine DR.p (.dep 4 0 rfl rfl rfl (.dep 2 2 rfl rfl rfl .nil)) (T_sub rfl rfl) (.y rfl rfl hqc3) rfl rfl (nofun) ?_
   refine DR.p (.dep 3 2 rfl rfl rfl (.dep 5 0 rfl rfl rfl (.dep 2 3 rfl rfl rfl .nil))) (T_ixr sl39 (.mk rfl) rfl hx1) (.y rfl rfl hqc3) rfl rfl B0 ?_
   refine DR.p (.dep 6 0 rfl rfl rfl (.dep 2 4 rfl rfl rfl .nil)) (T_faddr fo62_0 rfl) (.y rfl rfl hqc3) rfl rfl (nofun) ?_
   refine DR.p (.dep 7 0 rfl rfl rfl (.dep 2 5 rfl rfl rfl .nil)) (T_loadr (i := IntKind.i64.wrap ((a0.length : Int) - 1)) (n := 2) (s := s0) (p := 0) ty3 rfl hx1 hf_api_Extent_Start) (.y rfl rfl hqc3) rfl rfl B0 ?_
   refine DR.p (.base (t := 0) rfl (.dep 2 6 rfl rfl rfl .nil)) (T_move rfl) (.y rfl rfl hqc3) rfl rfl (nofun) ?_
   refine DR.p (.base (t := 5) rfl (.dep 2 7 rfl rfl rfl .nil)) (T_move rfl) (.y rfl rfl hqc3) rfl rfl (nofun) ?_
   refine DR.p (.dep 10 0 rfl rfl rfl (.dep 2 8 rfl rfl rfl .nil)) (T_sub rfl rfl) (.y rfl rfl hqc3) rfl rfl (nofun) ?_
   refine DR.p (.dep 9 2 rfl rfl rfl (.dep 11 0 rfl rfl rfl (.dep 2 9 rfl rfl rfl .nil))) (T_ixr sl39 (.mk rfl) rfl hx2) (.y rfl rfl hqc3) rfl rfl B0 ?_
   refine DR.p (.dep 12 0 rfl rfl rfl (.dep 2 10 rfl rfl rfl .nil)) (T_faddr fo62_1 rfl) (.y rfl rfl hqc3) rfl rfl (nofun) ?_
   refine DR.p (.dep 13 0 rfl rfl rfl (.dep 2 11 rfl rfl rfl .nil)) (T_loadr (i := IntKind.i64.wrap ((a0.length : Int) - 1)) (n := 2) (s := s0) (p := 1) ty3 rfl hx2 hf_api_Extent_Count) (.y rfl rfl hqc3) rfl rfl B0 ?_
   refine DR.p (.dep 8 6 rfl rfl rfl (.dep 14 0 rfl rfl rfl (.dep 2 12 rfl rfl rfl .nil))) (T_add rfl rfl) (.y rfl rfl hqc3) rfl rfl (nofun) ?_
   refine DR.p (.base (t := 1) rfl (.dep 2 13 rfl rfl rfl .nil)) (T_move rfl) (.y rfl rfl hqc3) rfl rfl (nofun) ?_
   refine DR.tail (by kernel_rfl) (.refl _) rfl ?_
   simp only [List.reverse_cons, List.reverse_nil, List.nil_append, List.cons_append, DT]
   refine JLp (T_eql rfl rfl) rfl (nofun) (.y rfl rfl hqc3) ?_
   refine JLp (T_pickT rfl hqc3 rfl) rfl (nofun) .none ?_
   refine JL_nil (KJ_hid hK ?_)
   exact KJ.sub KJ_end (.cons rfl (.cons rfl (.cons rfl (.cons rfl (.nil _)))))
  ·replace hc3 := iff_ hqc3 hc3
   obtain rfl := inj hc3
   refine J_drawR (Ks := []) rfl (by kernel_rfl) fun K hK => ?_
   refine DR.p (.base (t := 5) rfl .nil) (T_move rfl) .none rfl rfl (nofun) ?_
   refine DR.p (.dep 0 0 rfl rfl rfl .nil) (T_gtr rfl rfl) .none rfl rfl (nofun) ?_
   refine DR.p (.dep 1 0 rfl rfl rfl .nil) (T_move rfl) .none rfl rfl (nofun) ?_
   refine DR.x (.dep 2 0 rfl rfl rfl .nil) rfl rfl hqc3 rfl rfl ?_
   refine DR.x (.dep 2 1 rfl rfl rfl .nil) rfl rfl hqc3 rfl rfl ?_
   refine DR.x (.dep 2 2 rfl rfl rfl .nil) rfl rfl hqc3 rfl rfl ?_
   refine DR.x (.dep 2 3 rfl rfl rfl .nil) rfl rfl hqc3 rfl rfl ?_
   refine DR.x (.dep 2 4 rfl rfl rfl .nil) rfl rfl hqc3 rfl rfl ?_
   refine DR.x (.dep 2 5 rfl rfl rfl .nil) rfl rfl hqc3 rfl rfl ?_
   refine DR.x (.dep 2 6 rfl rfl rfl .nil) rfl rfl hqc3 rfl rfl ?_
   refine DR.x (.dep 2 7 rfl rfl rfl .nil) rfl rfl hqc3 rfl rfl ?_
   refine DR.x (.dep 2 8 rfl rfl rfl .nil) rfl rfl hqc3 rfl rfl ?_
   refine DR.x (.dep 2 9 rfl rfl rfl .nil) rfl rfl hqc3 rfl rfl ?_
   refine DR.x (.dep 2 10 rfl rfl rfl .nil) rfl rfl hqc3 rfl rfl ?_
   refine DR.x (.dep 2 11 rfl rfl rfl .nil) rfl rfl hqc3 rfl rfl ?_
   refine DR.x (.dep 2 12 rfl rfl rfl .nil) rfl rfl hqc3 rfl rfl ?_
   refine DR.x (.dep 2 13 rfl rfl rfl .nil) rfl rfl hqc3 rfl rfl ?_
   refine DR.tail (by kernel_rfl) (.refl _) rfl ?_
   simp only [List.reverse_cons, List.reverse_nil, List.nil_append, List.cons_append, DT]
   refine JLs rfl rfl hqc3 rfl ?_
   refine JLp (T_pickF rfl hqc3 rfl) rfl (nofun) .none ?_
   refine JL_nil (KJ_hid hK ?_)
   exact KJ.sub KJ_end (.cons rfl (.cons rfl (.cons rfl (.cons rfl (.nil _)))))
 ·refine KJ_nrm_then (KJ_J ?_)
  refine J_test rfl (fun hq4 => ?_) (fun hq4 => ?_)
  ·replace h := ift hq4 h
   refine J_seq ?_
   refine J_region ?_
   refine JLp (T_move rfl) rfl (nofun) .none ?_
   refine JLp (T_move rfl) rfl (nofun) .none ?_
   refine JLp (T_sub rfl rfl) rfl (nofun) .none ?_
   replace h := bnd h; obtain ⟨x5, hx5, h⟩ := h
   refine JLp (T_ixr sl39 (.mk rfl) rfl hx5) rfl B0 .none ?_
   refine JLp (T_faddr fo62_1 rfl) rfl (nofun) .none ?_
   refine JLp (T_loadr (i := IntKind.i64.wrap ((a0.length : Int) - 1)) (n := 2) (s := s0) (p := 1) ty3 rfl hx5 hf_api_Extent_Count) rfl B0 .none ?_
   refine JLp (T_add rfl rfl) rfl (nofun) .none ?_
   replace h := bnd h; obtain ⟨x6, hx6, h⟩ := h
   refine JLp (T_ixr sl39 (.mk rfl) rfl hx6) rfl B0 .none ?_
   refine JLp (T_faddr fo62_1 rfl) rfl (nofun) .none ?_
   refine JLn1 (T_storerV (i := IntKind.i64.wrap ((a0.length : Int) - 1)) (n := 2) (s := s0) (p := 1) (⟨x6.Start, IntKind.i64.wrap (x5.Count + 1)⟩ : api_Extent) ty3 rfl (.mk rfl) hx6 sf_api_Extent_Count lay_api_Extent rfl) .none ?_
   refine JL_nil ?_
   refine KJ_nrm_then (KJ_J ?_)
   refine J_seq ?_
   refine J_region ?_
   refine JLp (T_move rfl) rfl (nofun) .none ?_
   refine JLp (T_assign rfl) rfl (nofun) .none ?_
   refine JL_nil ?_
   refine KJ_nrm_then (KJ_J ?_)
   refine J_ret ?_
   refine KJ_ret_then ?_
   obtain rfl := inj h
   exact KJ_ret1c s0 [] rfl Try.results76 (.tmp (.mk rfl) Rv.nil) rfl rfl
  ·replace h := iff_ hq4 h
   refine J_skip ?_
   refine KJ_nrm_then (KJ_J ?_)
   refine J_seq ?_
   refine J_region ?_
   refine JLp (T_move rfl) rfl (nofun) .none ?_
   refine JLp (T_move rfl) rfl (nofun) .none ?_
   refine JLp (T_build (s' := (⟨a1, 1⟩ : api_Extent)) bd62 z62 lay_api_Extent (.cons (π := (Rep.int .i64)) (.mk rfl) rfl (Lay.int _) sf_api_Extent_Start (.cons (π := (Rep.int .i64)) (.mk rfl) rfl (Lay.int _) sf_api_Extent_Count .nil))) rfl (nofun) .none ?_
   refine JLe0 (T_bslice (ρ := r_api_Extent) sl39 lay_api_Extent (.cons (.mk rfl) .nil) rfl (by decide)) rfl .none ?_
   replace h := bnd h; obtain ⟨x7, hx7, h⟩ := h
   refine JLe1 (T_append sl39 ⟨_, lay_api_Extent⟩ (.mk rfl) (.mk rfl) hx7) rfl .none fun g8 => ?_
   refine JLp (T_assign rfl) rfl (nofun) .none ?_
   refine JL_nil ?_
   refine KJ_nrm_then (KJ_J ?_)
   refine J_ret ?_
   obtain rfl := inj h
   exact KJ_ret1c g8 [] rfl Try.results76 (.tmp (.mk rfl) Rv.nil) rfl rfl
end Go.Proofs.Ytogflgcngfghpaa
end
section
set_option maxHeartbeats 4000000
set_option linter.unusedVariables false
set_option linter.unusedSimpArgs false
namespace Go.Proofs.Ytogflgcngfghpaa
open Go.J
def f_compare_walk_descend (a0 : compare_walk) (a1 : List Int) : Option (compare_walk) :=
 (rangeF (σ := compare_walk × List api_Extent) (ρ := compare_walk) (fun i8 x12 s1 => (rangeF (σ := compare_walk × List api_Extent) (ρ := Rd (compare_walk × List api_Extent) (compare_walk)) (fun i21 x25 s14 => (f_compare_walk_nodes (⟨(⟨s14.1.Walk.Tree, [], s14.1.Walk.Level, s14.1.Walk.Found, s14.1.Walk.Sent, s14.1.Walk.Done⟩ : api_Walk)⟩ : compare_walk)).bind fun x27 => ((if (decide (x25 < (x27.length : Int))) = true then (f_compare_add s14.2 x25).bind fun x33 => some (Fl.go ((⟨(⟨s14.1.Walk.Tree, [], s14.1.Walk.Level, s14.1.Walk.Found, s14.1.Walk.Sent, s14.1.Walk.Done⟩ : api_Walk)⟩ : compare_walk), x33)) else some (Fl.go ((⟨(⟨s14.1.Walk.Tree, [], s14.1.Walk.Level, s14.1.Walk.Found, s14.1.Walk.Sent, s14.1.Walk.Done⟩ : api_Walk)⟩ : compare_walk), s14.2)) : Option (Fl (compare_walk × List api_Extent) (Rd (compare_walk × List api_Extent) (Rd (compare_walk × List api_Extent) (compare_walk)))))).bind fun o29 => o29.then fun s31 => some (Rd.next ((⟨(⟨s31.1.Walk.Tree, [], s31.1.Walk.Level, s31.1.Walk.Found, s31.1.Walk.Sent, s31.1.Walk.Done⟩ : api_Walk)⟩ : compare_walk), s31.2))) [IntKind.i64.wrap (2 * x12), IntKind.i64.wrap ((IntKind.i64.wrap (2 * x12)) + 1)] 0 ((⟨(⟨s1.1.Walk.Tree, [], s1.1.Walk.Level, s1.1.Walk.Found, s1.1.Walk.Sent, s1.1.Walk.Done⟩ : api_Walk)⟩ : compare_walk), s1.2)).bind fun o16 => o16.then fun s14 => some (Rd.next ((⟨(⟨s14.1.Walk.Tree, [], s14.1.Walk.Level, s14.1.Walk.Found, s14.1.Walk.Sent, s14.1.Walk.Done⟩ : api_Walk)⟩ : compare_walk), s14.2))) a1 0 ((⟨(⟨a0.Walk.Tree, [], IntKind.i64.wrap (a0.Walk.Level - 1), a0.Walk.Found, a0.Walk.Sent, a0.Walk.Done⟩ : api_Walk)⟩ : compare_walk), [])).bind fun o3 => o3.then fun s1 => some (⟨(⟨s1.1.Walk.Tree, s1.2, s1.1.Walk.Level, s1.1.Walk.Found, s1.1.Walk.Sent, s1.1.Walk.Done⟩ : api_Walk)⟩ : compare_walk)
theorem c_compare_walk_descend {a0 : compare_walk} {a1 : List Int} {b0 : Nat} {r : compare_walk} (h : f_compare_walk_descend a0 a1 = some r) : Ct Try.prog 49 [Rep.ptr.at (b0, 0), (Rep.sl (Rep.int .i64) 1).at a1] [Ent.box b0 r_compare_walk a0] (fun _ : Unit => Pr.tup []) (fun _ => [Ent.box b0 r_compare_walk r]) := by
 refine Ct.mk Try.func49 rfl Try.ntmps49 (by simp) fun I R => ?_
 unfold f_compare_walk_descend at h
 refine J_seq ?_
 refine J_region ?_
 refine JLp (T_move rfl) rfl (nofun) .none ?_
 refine JLp (T_nilchk rfl) rfl (nofun) .none ?_
 refine JLp (T_faddr fo98_0 rfl) rfl (nofun) .none ?_
 refine JLp (T_faddr fo41_2 rfl) rfl (nofun) .none ?_
 refine JLp (T_loadb ty3 rfl (HasF.comp hf_compare_walk_Walk hf_api_Walk_Level)) rfl B0 .none ?_
 refine JLp (T_sub rfl rfl) rfl (nofun) .none ?_
 refine JLp (T_nilchk rfl) rfl (nofun) .none ?_
 refine JLp (T_faddr fo98_0 rfl) rfl (nofun) .none ?_
 refine JLp (T_faddr fo41_2 rfl) rfl (nofun) .none ?_
 refine JLn1 (T_storeV (⟨(⟨a0.Walk.Tree, a0.Walk.Pending, IntKind.i64.wrap (a0.Walk.Level - 1), a0.Walk.Found, a0.Walk.Sent, a0.Walk.Done⟩ : api_Walk)⟩ : compare_walk) ty3 rfl (.mk rfl) (SetF.comp lay_api_Walk sf_compare_walk_Walk hf_compare_walk_Walk sf_api_Walk_Level) rfl) .none ?_
 refine JL_nil ?_
 refine KJ_nrm_then (KJ_J ?_)
 refine J_seq ?_
 refine J_region ?_
 refine JLp (T_move rfl) rfl (nofun) .none ?_
 refine JLp (T_nilchk rfl) rfl (nofun) .none ?_
 refine JLp (T_faddr fo98_0 rfl) rfl (nofun) .none ?_
 refine JLp (T_faddr fo41_1 rfl) rfl (nofun) .none ?_
 refine JLn1 (T_storeG ((⟨(⟨a0.Walk.Tree, [], IntKind.i64.wrap (a0.Walk.Level - 1), a0.Walk.Found, a0.Walk.Sent, a0.Walk.Done⟩ : api_Walk)⟩ : compare_walk), (.slice none 0 0)) tv39 rfl (.mk rfl) sg_compare_walk__compare_walk_h0_1__0_1 (by rfl)) .none ?_
 refine JL_nil ?_
 refine KJ_nrm_then (KJ_J ?_)
 refine J_seq ?_
 refine J_region ?_
 refine JLp (T_move rfl) rfl (nofun) .none ?_
 refine JLp (T_len (ρ := (Rep.int .i64)) sl25 (.mk rfl)) rfl (nofun) .none ?_
 refine JLp (T_move rfl) rfl (nofun) .none ?_
 refine JL_nil ?_
 refine KJ_nrm_then (KJ_J ?_)
 refine J_rownil 62 2 r_api_Extent ?_
 replace h := bnd h; obtain ⟨o3, ho4, h⟩ := h
 refine J_cuto o3 (fun (s1 : compare_walk × List api_Extent) (g2 : Value) => []) (fun s1 g2 => Ent.row g2 62 2 r_api_Extent s1.2 :: Ent.box b0 r_compare_walk_h0_1 ((⟨(⟨s1.1.Walk.Tree, [], s1.1.Walk.Level, s1.1.Walk.Found, s1.1.Walk.Sent, s1.1.Walk.Done⟩ : api_Walk)⟩ : compare_walk), g2) :: R) ?_ ?_
 ·refine J_block ?_
  refine J_lim (ρ := (Rep.int .i64)) (n := 1) (l := a1) (x := .tmp 21) (.mk rfl) fun hl => ?_
  refine J_range ho4 hl (fun i8 (s1 : compare_walk × List api_Extent) (g2 : Value) => [(0, Rep.ptr.at (b0, 0)), (21, (Rep.sl (Rep.int .i64) 1).at a1), (22, (Rep.int .i64).at (a1.length : Int)), (23, (Rep.int .i64).at i8)]) (fun i8 s1 g2 => Ent.row g2 62 2 r_api_Extent s1.2 :: Ent.box b0 r_compare_walk_h0_1 ((⟨(⟨s1.1.Walk.Tree, [], s1.1.Walk.Level, s1.1.Walk.Found, s1.1.Walk.Sent, s1.1.Walk.Done⟩ : api_Walk)⟩ : compare_walk), g2) :: R) (.slice none 0 0) (.cons rfl (.cons rfl (.cons rfl (.cons rfl (.nil _))))) rfl ?_ ?_
  ·intro s1 g2 ho4n
   refine J_seq (J_region (JLp (T_lss rfl rfl) rfl (nofun) .none (JL_nil (KJ_nrm_then (KJ_J ?_)))))
   refine J_seq (J_test rfl (fun hp => absurd (of_decide_eq_true hp) (by omega)) (fun _ => J_exit (KJ_exit_then (KJ_exit_then (KJ_exit_here (KJ_nrm_kq ?_))))))
   exact KJ_ot s1 g2 ho4n (.nil _) rfl
  ·intro i8 x12 s1 g2 st7 hi9 hj10 hx13 hw11 hb5 hf6
   refine J_seq (J_region (JLp (T_lss rfl rfl) rfl (nofun) .none (JL_nil (KJ_nrm_then (KJ_J ?_)))))
   refine J_seq (J_test rfl (fun _ => J_skip (KJ_nrm_then (KJ_J ?_))) (fun hp => absurd hj10 (of_decide_eq_false hp)))
   refine J_seq ?_
   refine J_block ?_
   refine J_seq ?_
   refine J_region ?_
   refine JLp (T_ix sl25 (.mk rfl) rfl hx13) rfl (nofun) .none ?_
   refine JLp (T_load ty3 rfl) rfl (nofun) .none ?_
   refine JLp (T_assign rfl) rfl (nofun) .none ?_
   refine JL_nil ?_
   refine KJ_nrm_then (KJ_J ?_)
   refine J_seq ?_
   refine J_region ?_
   refine JLp (T_move rfl) rfl (nofun) .none ?_
   refine JLp (T_mul rfl rfl) rfl (nofun) .none ?_
   refine JLp (T_move rfl) rfl (nofun) .none ?_
   refine JLp (T_mul rfl rfl) rfl (nofun) .none ?_
   refine JLp (T_add rfl rfl) rfl (nofun) .none ?_
   refine JLe0 (T_bslice (ρ := (Rep.int .i64)) sl25 (Lay.int _) (.cons (.mk rfl) (.cons (.mk rfl) .nil)) rfl (by decide)) rfl .none ?_
   refine JLp (T_len (ρ := (Rep.int .i64)) sl25 (.mk rfl)) rfl (nofun) .none ?_
   refine JLp (T_move rfl) rfl (nofun) .none ?_
   refine JL_nil ?_
   refine KJ_nrm_then (KJ_J ?_)
   replace hb5 := bnd hb5; obtain ⟨o16, ho17, hb5⟩ := hb5
   refine J_cuto o16 (fun (s14 : compare_walk × List api_Extent) (g15 : Value) => [(0, Rep.ptr.at (b0, 0)), (21, (Rep.sl (Rep.int .i64) 1).at a1), (22, (Rep.int .i64).at (a1.length : Int)), (23, (Rep.int .i64).at i8)]) (fun s14 g15 => Ent.row g15 62 2 r_api_Extent s14.2 :: Ent.box b0 r_compare_walk_h0_1 ((⟨(⟨s14.1.Walk.Tree, [], s14.1.Walk.Level, s14.1.Walk.Found, s14.1.Walk.Sent, s14.1.Walk.Done⟩ : api_Walk)⟩ : compare_walk), g15) :: R) ?_ ?_
   ·refine J_block ?_
    refine J_lim (ρ := (Rep.int .i64)) (n := 1) (l := [IntKind.i64.wrap (2 * x12), IntKind.i64.wrap ((IntKind.i64.wrap (2 * x12)) + 1)]) (x := .tmp 32) (.mk rfl) fun hl => ?_
    refine J_range ho17 hl (fun i21 (s14 : compare_walk × List api_Extent) (g15 : Value) => [(0, Rep.ptr.at (b0, 0)), (21, (Rep.sl (Rep.int .i64) 1).at a1), (22, (Rep.int .i64).at (a1.length : Int)), (23, (Rep.int .i64).at i8), (32, (Rep.sl (Rep.int .i64) 1).at [IntKind.i64.wrap (2 * x12), IntKind.i64.wrap ((IntKind.i64.wrap (2 * x12)) + 1)]), (33, (Rep.int .i64).at ([IntKind.i64.wrap (2 * x12), IntKind.i64.wrap ((IntKind.i64.wrap (2 * x12)) + 1)].length : Int)), (34, (Rep.int .i64).at i21)]) (fun i21 s14 g15 => Ent.row g15 62 2 r_api_Extent s14.2 :: Ent.box b0 r_compare_walk_h0_1 ((⟨(⟨s14.1.Walk.Tree, [], s14.1.Walk.Level, s14.1.Walk.Found, s14.1.Walk.Sent, s14.1.Walk.Done⟩ : api_Walk)⟩ : compare_walk), g15) :: R) g2 (.cons rfl (.cons rfl (.cons rfl (.cons rfl (.cons rfl (.cons rfl (.cons rfl (.nil _)))))))) rfl ?_ ?_
    ·intro s14 g15 ho17n
     refine J_seq (J_region (JLp (T_lss rfl rfl) rfl (nofun) .none (JL_nil (KJ_nrm_then (KJ_J ?_)))))
     refine J_seq (J_test rfl (fun hp => absurd (of_decide_eq_true hp) (by omega)) (fun _ => J_exit (KJ_exit_then (KJ_exit_then (KJ_exit_here (KJ_nrm_kq ?_))))))
     exact KJ_ot s14 g15 ho17n (.cons rfl (.cons rfl (.cons rfl (.cons rfl (.nil _))))) rfl
    ·intro i21 x25 s14 g15 st20 hi22 hj23 hx26 hw24 hb18 hf19
     refine J_seq (J_region (JLp (T_lss rfl rfl) rfl (nofun) .none (JL_nil (KJ_nrm_then (KJ_J ?_)))))
     refine J_seq (J_test rfl (fun _ => J_skip (KJ_nrm_then (KJ_J ?_))) (fun hp => absurd hj23 (of_decide_eq_false hp)))
     refine J_seq ?_
     refine J_block ?_
     refine J_seq ?_
     refine J_region ?_
     refine JLp (T_ix sl25 (.mk rfl) rfl hx26) rfl (nofun) .none ?_
     refine JLp (T_load ty3 rfl) rfl (nofun) .none ?_
     refine JLp (T_assign rfl) rfl (nofun) .none ?_
     refine JL_nil ?_
     refine KJ_nrm_then (KJ_J ?_)
     refine J_seq ?_
     refine J_region ?_
     refine JLp (T_move rfl) rfl (nofun) .none ?_
     refine JLp (T_move rfl) rfl (nofun) .none ?_
     replace hb18 := bnd hb18; obtain ⟨x27, hx27, hb18⟩ := hb18
     refine JL.perm F1 ?_
     refine JLe1 (T_call ⟨_, Try.func75, rfl, rfl⟩ (c_compare_walk_nodes_h0_1 hx27) ⟨.mk rfl, trivial⟩) rfl .none fun _ => ?_
     refine JLp (T_len (ρ := (Rep.int .u64)) sl67 (.mk rfl)) rfl (nofun) .none ?_
     refine JLp (T_lss rfl rfl) rfl (nofun) .none ?_
     refine JL_nil ?_
     refine KJ_nrm_then (KJ_J ?_)
     replace hb18 := bnd hb18; obtain ⟨o29, ho30, hb18⟩ := hb18
     refine J_cuto o29 (fun (s31 : compare_walk × List api_Extent) (g32 : Value) => [(0, Rep.ptr.at (b0, 0)), (21, (Rep.sl (Rep.int .i64) 1).at a1), (22, (Rep.int .i64).at (a1.length : Int)), (23, (Rep.int .i64).at i8), (32, (Rep.sl (Rep.int .i64) 1).at [IntKind.i64.wrap (2 * x12), IntKind.i64.wrap ((IntKind.i64.wrap (2 * x12)) + 1)]), (33, (Rep.int .i64).at ([IntKind.i64.wrap (2 * x12), IntKind.i64.wrap ((IntKind.i64.wrap (2 * x12)) + 1)].length : Int)), (34, (Rep.int .i64).at i21)]) (fun s31 g32 => Ent.box b0 r_compare_walk_h0_1 ((⟨(⟨s31.1.Walk.Tree, [], s31.1.Walk.Level, s31.1.Walk.Found, s31.1.Walk.Sent, s31.1.Walk.Done⟩ : api_Walk)⟩ : compare_walk), g32) :: Ent.row g32 62 2 r_api_Extent s31.2 :: R) ?_ ?_
     ·refine J_test rfl (fun hq28 => ?_) (fun hq28 => ?_)
      ·replace ho30 := ift hq28 ho30
       refine J_region ?_
       refine JLp (T_move rfl) rfl (nofun) .none ?_
       refine JLp (T_move rfl) rfl (nofun) .none ?_
       refine JLp (T_nilchk rfl) rfl (nofun) .none ?_
       refine JLp (T_faddr fo98_0 rfl) rfl (nofun) .none ?_
       refine JLp (T_faddr fo41_1 rfl) rfl (nofun) .none ?_
       refine JLp (T_loadb tv39 rfl (HasF.comp hf_compare_walk_h0_1_Walk hf_api_Walk_h1_Pending)) rfl B0 .none ?_
       refine JLp (T_move rfl) rfl (nofun) .none ?_
       replace ho30 := bnd ho30; obtain ⟨x33, hx33, ho30⟩ := ho30
       refine JL.perm F1 ?_
       refine JLe1 (T_call ⟨_, Try.func76, rfl, rfl⟩ (c_compare_add hx33) ⟨.mk rfl, ⟨(.mk rfl), trivial⟩⟩) rfl .none fun g34 => ?_
       refine JLp (T_nilchk rfl) rfl (nofun) .none ?_
       refine JLp (T_faddr fo98_0 rfl) rfl (nofun) .none ?_
       refine JLp (T_faddr fo41_1 rfl) rfl (nofun) .none ?_
       refine JL.perm F1 ?_
       refine JLn1 (T_storeG ((⟨(⟨s14.1.Walk.Tree, [], s14.1.Walk.Level, s14.1.Walk.Found, s14.1.Walk.Sent, s14.1.Walk.Done⟩ : api_Walk)⟩ : compare_walk), g34) tv39 rfl (.mk rfl) sg_compare_walk_h0_1__compare_walk_h0_1__0_1 (by rfl)) .none ?_
       refine JL_nil ?_
       refine KJ_nrm_kq ?_
       exact KJ_ot ((⟨(⟨s14.1.Walk.Tree, [], s14.1.Walk.Level, s14.1.Walk.Found, s14.1.Walk.Sent, s14.1.Walk.Done⟩ : api_Walk)⟩ : compare_walk), x33) g34 (inj ho30) (.cons rfl (.cons rfl (.cons rfl (.cons rfl (.cons rfl (.cons rfl (.cons rfl (.nil _)))))))) rfl
      ·replace ho30 := iff_ hq28 ho30
       refine J_skip ?_
       refine KJ_nrm_kq ?_
       exact KJ_ot ((⟨(⟨s14.1.Walk.Tree, [], s14.1.Walk.Level, s14.1.Walk.Found, s14.1.Walk.Sent, s14.1.Walk.Done⟩ : api_Walk)⟩ : compare_walk), s14.2) g15 (inj ho30) (.cons rfl (.cons rfl (.cons rfl (.cons rfl (.cons rfl (.cons rfl (.cons rfl (.nil _)))))))) rfl
     ·intro s31 g32 hs
      subst hs
      replace hb18 := thn hb18
      refine KJ_nrm_blk ?_
      refine KJ_nrm_then (KJ_J ?_)
      refine J_region ?_
      refine JLp (T_addw rfl rfl hw24) rfl (nofun) .none ?_
      refine JLp (T_move rfl) rfl (nofun) .none ?_
      refine JL_nil ?_
      refine KJ_nrm_then ?_
      refine KJ.perm F1 ?_
      exact KJ_nx ((⟨(⟨s31.1.Walk.Tree, [], s31.1.Walk.Level, s31.1.Walk.Found, s31.1.Walk.Sent, s31.1.Walk.Done⟩ : api_Walk)⟩ : compare_walk), s31.2) g32 (inj hb18) (.cons rfl (.cons rfl (.cons rfl (.cons rfl (.cons rfl (.cons rfl (.cons rfl (.nil _)))))))) rfl
   ·intro s14 g15 hs
    subst hs
    replace hb5 := thn hb5
    refine KJ_nrm_blk ?_
    refine KJ_nrm_then (KJ_J ?_)
    refine J_region ?_
    refine JLp (T_addw rfl rfl hw11) rfl (nofun) .none ?_
    refine JLp (T_move rfl) rfl (nofun) .none ?_
    refine JL_nil ?_
    refine KJ_nrm_then ?_
    exact KJ_nx ((⟨(⟨s14.1.Walk.Tree, [], s14.1.Walk.Level, s14.1.Walk.Found, s14.1.Walk.Sent, s14.1.Walk.Done⟩ : api_Walk)⟩ : compare_walk), s14.2) g15 (inj hb5) (.cons rfl (.cons rfl (.cons rfl (.cons rfl (.nil _))))) rfl
 ·intro s1 g2 hs
  subst hs
  replace h := thn h
  refine KJ_end_body ?_
  refine KJ.perm F1 ?_
  refine KJ.perm F1 ?_
  refine KJ_close (⟨(⟨s1.1.Walk.Tree, s1.2, s1.1.Walk.Level, s1.1.Walk.Found, s1.1.Walk.Sent, s1.1.Walk.Done⟩ : api_Walk)⟩ : compare_walk) (fun I h => (Clp.iso (f := p_compare_walk_h0_1) (f' := p_compare_walk) (π := c_compare_walk_h0_1) (π' := c_compare_walk) (Clp.head (Clp.iso (f := p_api_Walk_h1) (f' := p_api_Walk) (π := c_api_Walk_h1) (π' := c_api_Walk) (Clp.tail (Clp.head (Clp.sl h))))))) ?_
  obtain rfl := inj h
  exact KJ_retnc () [] rfl Try.results49 Rv.nil rfl (by simp) rfl
end Go.Proofs.Ytogflgcngfghpaa
end
