/- The law CompareLearns answers true at every input, and leaves its arguments as they were. No condition. -/
import Derived.Test.YtogflgcngfghpaaRows
import Derived.Test.YtogflgcngfghpaaC13

/- What the opening says of the parameters: the data under each given type reads as a value of the model's. -/
section
set_option linter.unusedVariables false
namespace Go.Proofs.Ytogflgcngfghpaa
open Go.J
theorem op3 : OpE Try.prog 3 1 false (Rep.int .i64) (InK .i64) := OpE.int Try.underlying3
theorem op73 : OpE Try.prog 73 1 false (Rep.int .u64) (InK .u64) := OpE.int Try.underlying73
theorem op67 : OpE Try.prog 67 1 false (Rep.sl (Rep.int .u64) 1) (fun l => l.length ≤ lim ∧ ∀ x ∈ l, (InK .u64) x) := OpE.slice Try.underlying67 op73 (Lay.int _) (by kernel_rfl) (by decide) (by rw [show Try.prog.bytesOf 73 = 8 by kernel_rfl]; decide)
theorem op22 : OpE Try.prog 22 1 false (Rep.sl (Rep.sl (Rep.int .u64) 1) 1) (fun l => l.length ≤ lim ∧ ∀ x ∈ l, (fun l => l.length ≤ lim ∧ ∀ x ∈ l, (InK .u64) x) x) := OpE.slice Try.underlying22 op67 (Lay.sl _ _) (by kernel_rfl) (by decide) (by rw [show Try.prog.bytesOf 67 = 24 by kernel_rfl]; decide)
def q_api_Tree (s : api_Tree) : Prop := (InK .i64) s.Size ∧ (InK .i64) s.Leaf ∧ (fun l => l.length ≤ lim ∧ ∀ x ∈ l, (fun l => l.length ≤ lim ∧ ∀ x ∈ l, (InK .u64) x) x) s.Levels
theorem op24 : OpE Try.prog 24 3 true r_api_Tree q_api_Tree := OpE.struct (p := p_api_Tree) (u := u_api_Tree) Try.underlying24 (by kernel_rfl) (.cons rfl (by kernel_rfl) op3 (Lay.int _) (.cons rfl (by kernel_rfl) op3 (Lay.int _) (.cons rfl (by kernel_rfl) op22 (Lay.sl _ _) .nil))) (fun _ => rfl) (fun y h => ⟨h.1, h.2.1, h.2.2.1⟩)
theorem op25 : OpE Try.prog 25 1 false (Rep.sl (Rep.int .i64) 1) (fun l => l.length ≤ lim ∧ ∀ x ∈ l, (InK .i64) x) := OpE.slice Try.underlying25 op3 (Lay.int _) (by kernel_rfl) (by decide) (by rw [show Try.prog.bytesOf 3 = 8 by kernel_rfl]; decide)
theorem op5 : OpE Try.prog 5 1 false (Rep.int .u8) (InK .u8) := OpE.int Try.underlying5
theorem op26 : OpE Try.prog 26 1 false (Rep.sl (Rep.int .u8) 1) (fun l => l.length ≤ lim ∧ ∀ x ∈ l, (InK .u8) x) := OpE.slice Try.underlying26 op5 (Lay.int _) (by kernel_rfl) (by decide) (by rw [show Try.prog.bytesOf 5 = 1 by kernel_rfl]; decide)
def q_api_Message (s : api_Message) : Prop := (InK .i64) s.Kind ∧ (InK .i64) s.From ∧ (InK .i64) s.To ∧ (InK .i64) s.Number ∧ (InK .i64) s.Value ∧ (InK .i64) s.Epoch ∧ (fun l => l.length ≤ lim ∧ ∀ x ∈ l, (InK .i64) x) s.Values ∧ (fun l => l.length ≤ lim ∧ ∀ x ∈ l, (InK .u8) x) s.Body
theorem op28 : OpE Try.prog 28 8 true r_api_Message q_api_Message := OpE.struct (p := p_api_Message) (u := u_api_Message) Try.underlying28 (by kernel_rfl) (.cons rfl (by kernel_rfl) op3 (Lay.int _) (.cons rfl (by kernel_rfl) op3 (Lay.int _) (.cons rfl (by kernel_rfl) op3 (Lay.int _) (.cons rfl (by kernel_rfl) op3 (Lay.int _) (.cons rfl (by kernel_rfl) op3 (Lay.int _) (.cons rfl (by kernel_rfl) op3 (Lay.int _) (.cons rfl (by kernel_rfl) op25 (Lay.sl _ _) (.cons rfl (by kernel_rfl) op26 (Lay.sl _ _) .nil)))))))) (fun _ => rfl) (fun y h => ⟨h.1, h.2.1, h.2.2.1, h.2.2.2.1, h.2.2.2.2.1, h.2.2.2.2.2.1, h.2.2.2.2.2.2.1, h.2.2.2.2.2.2.2.1⟩)
def q_api_Extent (s : api_Extent) : Prop := (InK .i64) s.Start ∧ (InK .i64) s.Count
theorem op62 : OpE Try.prog 62 2 true r_api_Extent q_api_Extent := OpE.struct (p := p_api_Extent) (u := u_api_Extent) Try.underlying62 (by kernel_rfl) (.cons rfl (by kernel_rfl) op3 (Lay.int _) (.cons rfl (by kernel_rfl) op3 (Lay.int _) .nil)) (fun _ => rfl) (fun y h => ⟨h.1, h.2.1⟩)
theorem op39 : OpE Try.prog 39 1 false (Rep.sl r_api_Extent 2) (fun l => l.length ≤ lim ∧ ∀ x ∈ l, q_api_Extent x) := OpE.slice Try.underlying39 op62 lay_api_Extent (by kernel_rfl) (by decide) (by rw [show Try.prog.bytesOf 62 = 16 by kernel_rfl]; decide)
theorem op4 : OpE Try.prog 4 1 false Rep.bool (fun _ => True) := OpE.bool Try.underlying4
def q_api_Walk (s : api_Walk) : Prop := q_api_Tree s.Tree ∧ (fun l => l.length ≤ lim ∧ ∀ x ∈ l, q_api_Extent x) s.Pending ∧ (InK .i64) s.Level ∧ (fun l => l.length ≤ lim ∧ ∀ x ∈ l, q_api_Extent x) s.Found ∧ (InK .i64) s.Sent ∧ (fun _ => True) s.Done
theorem op41 : OpE Try.prog 41 8 true r_api_Walk q_api_Walk := OpE.struct (p := p_api_Walk) (u := u_api_Walk) Try.underlying41 (by kernel_rfl) (.cons rfl (by kernel_rfl) op24 lay_api_Tree (.cons rfl (by kernel_rfl) op39 (Lay.sl _ _) (.cons rfl (by kernel_rfl) op3 (Lay.int _) (.cons rfl (by kernel_rfl) op39 (Lay.sl _ _) (.cons rfl (by kernel_rfl) op3 (Lay.int _) (.cons rfl (by kernel_rfl) op4 Lay.bool .nil)))))) (fun _ => rfl) (fun y h => ⟨h.1, h.2.1, h.2.2.1, h.2.2.2.1, h.2.2.2.2.1, h.2.2.2.2.2.1⟩)
theorem op51 : OpE Try.prog 51 3 true (Rep.arr (Rep.int .i64) 1 3) (fun l => l.length = 3 ∧ ∀ x ∈ l, (InK .i64) x) := OpE.arr Try.underlying51 op3 (Lay.int _) (by kernel_rfl)
theorem op76 : OpE Try.prog 76 8 true (Rep.arr (Rep.int .u8) 1 8) (fun l => l.length = 8 ∧ ∀ x ∈ l, (InK .u8) x) := OpE.arr Try.underlying76 op5 (Lay.int _) (by kernel_rfl)
theorem op64 : OpE Try.prog 64 1 false (Rep.sl (Rep.arr (Rep.int .u8) 1 8) 8) (fun l => l.length ≤ lim ∧ ∀ x ∈ l, (fun l => l.length = 8 ∧ ∀ x ∈ l, (InK .u8) x) x) := OpE.slice Try.underlying64 op76 (Lay.arr (Lay.int _)) (by kernel_rfl) (by decide) (by rw [show Try.prog.bytesOf 76 = 8 by kernel_rfl]; decide)
end Go.Proofs.Ytogflgcngfghpaa
end

/- The law of the learning of answers, in plain Lean. -/
section
set_option maxHeartbeats 1000000
set_option linter.unusedVariables false
set_option linter.unusedSimpArgs false
namespace Go.Proofs.Ytogflgcngfghpaa
open Go.J
theorem u8_of {x : Int} (h : InK .u8 x) : U8 x := by
  have h1 : (0 : Int) ≤ x ∧ x ≤ 255 := h
  unfold U8; omega
theorem u64_of {x : Int} (h : InK .u64 x) : U64 x := by
  have h1 : (0 : Int) ≤ x ∧ x ≤ 18446744073709551615 := h
  unfold U64; omega
theorem WOK.of {w : api_Walk} (h : q_api_Walk w) (hf : fewT w.Tree ∧ w.Pending.length ≤ 60 ∧ w.Found.length ≤ 60) : WOK w :=
  ⟨by have := hf.1.1; omega, fun e he => h.2.1.2 e he, fun e he => h.2.2.2.1.2 e he, by omega, by omega, fun l hl x hx => u64_of ((h.1.2.2.2 l hl).2 x hx)⟩
theorem good_len {t : api_Tree} (h : checkS t = 0) : t.Levels.length ≤ lim ∧ ∀ l ∈ t.Levels, l.length ≤ lim := by
  obtain ⟨_, _, _, _, _, g6, g7⟩ := good_levels h
  exact ⟨by simp only [lim]; omega, fun l hl => by have := g7 l hl; simp only [lim]; omega⟩
/-- The sizes of what a step leaves. -/
theorem move_len {w : api_Walk} {m : api_Message} (ho : Open w) (hm : True) :
    let r := moveS w (stepD w m); (r.1.Pending.length ≤ 4096 ∧ r.1.Found.length ≤ 4096 ∧ r.1.Tree = w.Tree) ∧ r.2.1.length ≤ 1 ∧ ∀ x ∈ r.2.1, x.Values.length ≤ 10000 ∧ x.Body.length = 0 := by
  obtain ⟨r1, r2, r3⟩ := ho.rise m
  obtain ⟨q1, q2, q3, q4, _⟩ := good_levels ho.good
  unfold moveS
  split
  · rename_i h8
    have := sep_short (foldX_sep (secs_chain r1 q3 q2 (fun n hn => ho.leaf h8 (r2 n hn))))
    exact ⟨⟨by simp, by simpa using this, rfl⟩, by simp, fun x hx => by simp at hx⟩
  · rename_i h8
    split
    · exact ⟨⟨by simp, by simp, rfl⟩, by simp, fun x hx => by simp at hx⟩
    · have := sep_short (below_sep ho m h8)
      refine ⟨⟨this, by simp [downS], rfl⟩, by simp, fun x hx => ?_⟩
      simp only [List.mem_singleton] at hx
      subst hx
      refine ⟨?_, rfl⟩
      show (valuesS _).length ≤ 10000
      rw [values_len]; omega
theorem learn_len {w : api_Walk} {m : api_Message} :
    let r := learnS w m; (r.1.Pending.length ≤ 4096 ∧ r.1.Found.length ≤ 4096 ∧ (r.1.Tree = w.Tree ∧ checkS w.Tree = 0 ∨ r.1.Tree = w0.Tree)) ∧ r.2.1.length ≤ 1 ∧ ∀ x ∈ r.2.1, x.Values.length ≤ 10000 ∧ x.Body.length = 0 := by
  unfold learnS
  split
  · exact ⟨⟨by simp [w0], by simp [w0], .inr rfl⟩, by simp, fun x hx => by simp at hx⟩
  split
  · exact ⟨⟨by simp [w0], by simp [w0], .inr rfl⟩, by simp, fun x hx => by simp at hx⟩
  split
  · exact ⟨⟨by simp [w0], by simp [w0], .inr rfl⟩, by simp, fun x hx => by simp at hx⟩
  split
  · exact ⟨⟨by simp [w0], by simp [w0], .inr rfl⟩, by simp, fun x hx => by simp at hx⟩
  split
  · exact ⟨⟨by simp [w0], by simp [w0], .inr rfl⟩, by simp, fun x hx => by simp at hx⟩
  rename_i h1 h2 h3 h4 h5
  have ho := Open.of (Decidable.not_not.1 h1) (by simpa using h2)
  have := move_len (m := m) ho trivial
  exact ⟨⟨this.1.1, this.1.2.1, .inl ⟨this.1.2.2, ho.good⟩⟩, this.2⟩
theorem law_CompareLearns {a0 : api_Walk} {a1 : api_Message} (h0 : q_api_Walk a0) (h1 : q_api_Message a1) : f_law44_CompareLearns a0 a1 = some true := by
  unfold f_law44_CompareLearns
  obtain ⟨b, hb, hf⟩ := fewWalk_eq a0
  rw [hb, fewMessage_eq, awake_true]
  simp only [Option.bind_some]
  cases b with
  | false => simp
  | true =>
    have hw := WOK.of h0 (hf rfl)
    cases hfm : (decide ((a1.Values.length : Int) ≤ 200) && decide ((a1.Body.length : Int) ≤ 2000)) with
    | false => simp
    | true =>
      simp only [Bool.and_eq_true, decide_eq_true_eq] at hfm
      have hv : a1.Values.length ≤ lim := by simp only [lim]; omega
      have hu : ∀ x ∈ a1.Body, U8 x := fun x hx => u8_of (h1.2.2.2.2.2.2.2.2 x hx)
      obtain ⟨⟨l1, l2, l3⟩, l4, l5⟩ := learn_len (w := a0) (m := a1)
      have ht : (learnS a0 a1).1.Tree.Levels.length ≤ lim ∧ ∀ l ∈ (learnS a0 a1).1.Tree.Levels, l.length ≤ lim := by
        rcases l3 with ⟨e, hg⟩ | e
        · rw [e]; exact good_len hg
        · rw [e]; exact ⟨by simp [w0], fun l hl => by simp [w0] at hl⟩
      simp only [Bool.not_true, Bool.false_eq_true, if_false, Option.bind_some, learn_eq hw hv hu, refLearn_eq hw hv hu]
      rw [sameWalk_self (by simp only [lim]; omega) (by simp only [lim]; omega) ht.1 ht.2]
      rw [sameMessages_self (by simp only [lim]; omega) (fun x hx => by have := l5 x hx; simp only [lim]; omega)]
      simp
end Go.Proofs.Ytogflgcngfghpaa
end

section
set_option maxHeartbeats 4000000
set_option linter.unusedVariables false
set_option linter.unusedSimpArgs false
namespace Go.Proofs.Ytogflgcngfghpaa
namespace compareLearns
open Go.J Go.ChangeShapes Go.WideShapes Go.ChangeAt Go.RowKit
open Go.ChangeMaps (open_string shut_string)
theorem own : ownKnob Try.prog.godebug = none := by kernel_rfl
theorem laidOut : laidOutB Try.prog = true := by kernel_rfl
set_option maxRecDepth 100000 in
theorem lifted (os : Os) (started : os.Started) (H : Type) (enc : TypeId × Go.Value → H) :
    ReturnsInHanded {} Try.checked os 4 .any (Rows.compareLearnsSpec.pre6 enc Try.prog Try.f4 Rows.compareLearnsRow.domain false) (Rows.compareLearnsSpec.post enc Try.prog Try.f4 false true false false) := by
  refine returnsInHanded_of_change_sized (C := Try.checked) own started (by kernel_rfl) Try.func4
    (ChangeSpec.witness6 (enc := enc) (C := Try.checked) false ⟨#[], #[.agg #[.int .i64 0, .int .i64 0, .slice none 0 0, .slice none 0 0, .int .i64 0, .slice none 0 0, .int .i64 0, .bool false], .agg #[.int .i64 0, .int .i64 0, .int .i64 0, .int .i64 0, .int .i64 0, .int .i64 0, .slice none 0 0, .slice none 0 0]], []⟩ 8 (by kernel_rfl) (by kernel_rfl) (by kernel_rfl) (by kernel_rfl)) ?_
  intro W base args ds gs before hval0 hW hcnd hsz0 _
  have hval : ∀ (j : Nat) t v, Try.f4.params[j]? = some t → args[j]? = some v → Value.okWide Try.prog W .any base t v := hval0
  have hsz : (DataW.weightsEach Try.prog (Try.f4.params.toList ++ Rows.compareLearnsSpec.plain.varTypes Try.prog) (ds ++ gs)).all (· ≤ reachBytes) = true := hsz0
  have hW' := hW
  obtain ⟨p, q, hA0, hV, rfl, hfz, hnd⟩ := hW
  have hA : DataW.TrodAll enc Try.prog W 0 (fun _ => true) true Try.f4.params.toList args.toList ds p := hA0
  rw [Try.params4] at hA hval hsz
  obtain ⟨v0, vs0, d0, ds0, p0, q0, hargs, rfl, rfl, h0, r0⟩ := trodAll_cons hA
  obtain ⟨v1, vs1, d1, ds1, p1, q1, rfl, rfl, rfl, h1, r1⟩ := trodAll_cons r0
  obtain ⟨rfl, rfl, rfl⟩ := trodAll_nil r1
  obtain rfl : args = #[v0, v1] := by cases args; simp_all
  obtain ⟨rfl, rfl⟩ := trodVars_none hV
  have k0 := h0
  have lt0 : ∀ x ∈ p0, x.block < W.heap.size := by obtain ⟨m, hm⟩ := k0; exact DataW.trod_lt m _ _ _ hm
  have hw0 : ∀ x ∈ DataW.weights Try.prog 41 d0, x ≤ reachBytes := fun x hx => by
    have := List.all_eq_true.1 hsz x (DataW.weights_mem_each (j := 0) rfl rfl x hx)
    simpa using this
  obtain ⟨cs0, rfl, hc0, _⟩ : ∃ cs, v0 = .agg cs ∧ cs.size = Try.prog.cellsOf 41 ∧ True := by
    have h := hval 0 41 v0 rfl rfl
    simp only [Value.okWide, Try.underlying41] at h
    obtain ⟨cs, e, c, _⟩ := h
    exact ⟨cs, e, c, trivial⟩
  obtain ⟨x0, hx0, q0⟩ : ∃ x, (r_api_Walk).rd (immOf W) (.agg cs0) x ∧ q_api_Walk x := by
    obtain ⟨fuel, hf⟩ := h0
    exact op41 H enc W fuel _ _ _ hf hw0 (by rw [show (8 : Nat) = Try.prog.cellsOf 41 by kernel_rfl, ← hc0]; rfl)
  have k1 := h1
  have lt1 : ∀ x ∈ p1, x.block < W.heap.size := by obtain ⟨m, hm⟩ := k1; exact DataW.trod_lt m _ _ _ hm
  have hw1 : ∀ x ∈ DataW.weights Try.prog 28 d1, x ≤ reachBytes := fun x hx => by
    have := List.all_eq_true.1 hsz x (DataW.weights_mem_each (j := 1) rfl rfl x hx)
    simpa using this
  obtain ⟨cs1, rfl, hc1, _⟩ : ∃ cs, v1 = .agg cs ∧ cs.size = Try.prog.cellsOf 28 ∧ True := by
    have h := hval 1 28 v1 rfl rfl
    simp only [Value.okWide, Try.underlying28] at h
    obtain ⟨cs, e, c, _⟩ := h
    exact ⟨cs, e, c, trivial⟩
  obtain ⟨x1, hx1, q1⟩ : ∃ x, (r_api_Message).rd (immOf W) (.agg cs1) x ∧ q_api_Message x := by
    obtain ⟨fuel, hf⟩ := h1
    exact op28 H enc W fuel _ _ _ hf hw1 (by rw [show (8 : Nat) = Try.prog.cellsOf 28 by kernel_rfl, ← hc1]; rfl)
  clear hA0 hval0
  refine (Ct.law (vs := [.agg cs0, .agg cs1]) (w := W) (c_law44_CompareLearns (law_CompareLearns q0 q1)) ⟨hx0, ⟨hx1, trivial⟩⟩).mono fun e W' ⟨he, bel⟩ => ?_
  subst he
  exact ⟨_, rfl, _, _, _, [], _, [], hW', trodAll_mk1 (shut_bool Try.underlying4 _), (trodAll_cons_mk (Below.trod laidOut (by kernel_rfl) (of_decide_eq_true (by kernel_rfl)) k0 bel lt0) (trodAll_cons_mk (Below.trod laidOut (by kernel_rfl) (of_decide_eq_true (by kernel_rfl)) k1 bel lt1) trodAll_mk0)), rfl, bel.frame _, fun h => by cases h⟩
theorem over : Rows.compareLearnsRow.holds Try.pinned (OpenSpec.ofChange Rows.compareLearnsSpec) :=
  OpenClaim.holds_of_wide 4 Try.f4 rfl rfl rfl rfl rfl rfl rfl ⟨rfl, rfl, rfl, rfl, rfl⟩ rfl rfl rfl rfl rfl (by kernel_rfl) Try.func4 (by kernel_rfl)
    (of_decide_eq_true (by kernel_rfl)) (by unfold Func.isWrapper; first | (rw [if_pos (by decide +kernel)]; kernel_rfl) | (rw [if_neg (by decide +kernel)]; exact ⟨rfl, rfl⟩))
    (fun os started H enc _ => lifted os started H enc)
/-- The given statement. -/
theorem proved : Rows.CompareLearnsSaid := over
end compareLearns
end Go.Proofs.Ytogflgcngfghpaa
end
