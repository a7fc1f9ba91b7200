/- A part of the proof: Learning an answer: the program and the reference give the same walk, the same messages, the same error. No condition. -/
import Derived.Test.YtogflgcngfghpaaD11

/- Learning an answer: the program and the reference give the same walk, the same messages, the same error. -/
section
set_option maxHeartbeats 1000000
set_option linter.unusedVariables false
set_option linter.unusedSimpArgs false
namespace Go.Proofs.Ytogflgcngfghpaa
open Go.J

theorem refDiffer_eq {ρ : Type} {L : List (List Int)} {lv : Int} {nodes body level : List Int} (hlv : 0 ≤ lv ∧ lv.toNat < L.length) (hle : level = L.getD lv.toNat []) (hn : ∀ n ∈ nodes, 0 ≤ n ∧ n.toNat < level.length) (hb : body.length = 8 * nodes.length) (hnl : nodes.length ≤ 100000) (hu : ∀ x ∈ body, U8 x) (hv : ∀ x ∈ level, U64 x) :
    whileF (σ := List Int × Int) (ρ := ρ) (fun s14 => if (decide (s14.2 < (nodes.length : Int))) = true then (f_ref44_digest body s14.2).bind fun x22 => (idx L lv).bind fun x23 => (idx nodes s14.2).bind fun x24 => (idx x23 x24).bind fun x25 => ((if (!decide (x22 = x25)) = true then (idx nodes s14.2).bind fun x31 => (app 8 s14.1 [x31]).bind fun x32 => some (Fl.go x32) else some (Fl.go s14.1) : Option (Fl (List Int) (Rd (List Int × Int) ρ)))).bind fun o27 => o27.then fun s29 => some (Rd.next (s29, IntKind.i64.wrap (s14.2 + 1))) else some (Rd.done (s14.1, s14.2))) bigK ([], 0) = some (.go (differS nodes body level, (nodes.length : Int))) := by
  have := while_go (ρ := ρ) (body := fun (s14 : List Int × Int) => if (decide (s14.2 < (nodes.length : Int))) = true then (f_ref44_digest body s14.2).bind fun x22 => (idx L lv).bind fun x23 => (idx nodes s14.2).bind fun x24 => (idx x23 x24).bind fun x25 => ((if (!decide (x22 = x25)) = true then (idx nodes s14.2).bind fun x31 => (app 8 s14.1 [x31]).bind fun x32 => some (Fl.go x32) else some (Fl.go s14.1) : Option (Fl (List Int) (Rd (List Int × Int) ρ)))).bind fun o27 => o27.then fun s29 => some (Rd.next (s29, IntKind.i64.wrap (s14.2 + 1))) else some (Rd.done (s14.1, s14.2)))
    (fun k => ((List.range k).flatMap (diffAt nodes body level), (k : Int))) nodes.length (K := bigK) (Nat.lt_of_le_of_lt (by simp [lim]; omega) lim_bigK) (fun k hk => by
      have hx := hn nodes[k] (List.getElem_mem _)
      have hdr := diffR_len nodes body level k
      simp only
      rw [if_pos (by simp; omega), refDig_eq hu (by omega) (by omega), idx_getD hlv.1 hlv.2 [], ← hle, idx_get hk]
      simp only [Option.bind_some]
      rw [idx_getD hx.1 hx.2 0]
      simp only [Option.bind_some]
      have hxe : nodes.getD k 0 = nodes[k] := by simp [List.getD_eq_getElem?_getD, hk]
      have hvv : U64 (level.getD nodes[k].toNat 0) := by
        rw [List.getD_eq_getElem?_getD, List.getElem?_eq_getElem hx.2]
        exact hv _ (List.getElem_mem _)
      have hcl : ((body.drop (8 * k)).take 8).length = 8 := by simp; omega
      have hiff : asmH ((body.drop (8 * k)).take 8) = level.getD nodes[k].toNat 0 ↔ (body.drop (8 * k)).take 8 = bytesS (level.getD nodes[k].toNat 0) := by
        constructor
        · intro h
          refine asm_inj (by rw [hcl, bytes_len]) (fun x hx => hu x (List.mem_of_mem_drop (List.mem_of_mem_take hx))) (bytes_U8 _) ?_
          rw [h, bytes_asm hvv]
        · intro h
          rw [h, bytes_asm hvv]
      have er : (List.range (k + 1)).flatMap (diffAt nodes body level) = (List.range k).flatMap (diffAt nodes body level) ++ (if (body.drop (8 * k)).take 8 = bytesS (level.getD nodes[k].toNat 0) then [] else [nodes[k]]) := by
        rw [List.range_succ, List.flatMap_append]
        simp only [List.flatMap_cons, List.flatMap_nil, List.append_nil]
        unfold diffAt
        rw [hxe]
      rw [er, w64 (n := (k : Int) + 1) (by omega) (by omega)]
      by_cases heq : (body.drop (8 * k)).take 8 = bytesS (level.getD nodes[k].toNat 0)
      · rw [if_neg (by simp only [hiff.2 heq, decide_true, Bool.not_true]; decide), if_pos heq]
        simp only [Option.bind_some, Fl.then_go, List.append_nil]
        simp
      · rw [if_pos (by simp only [Bool.not_eq_true', decide_eq_false_iff_not]; exact fun h => heq (hiff.1 h)), if_neg heq, app_ok (by simp only [List.length_singleton, lim]; omega) (by simp only [List.length_singleton, lim]; omega)]
        simp only [Option.bind_some, Fl.then_go]
        simp) (s' := (differS nodes body level, (nodes.length : Int))) (by
      simp [differS])
  exact this

structure WOK (w : api_Walk) : Prop where
  lv : w.Tree.Levels.length ≤ 1000000
  p : ∀ e ∈ w.Pending, EI e
  f : ∀ e ∈ w.Found, EI e
  pl : w.Pending.length ≤ 1000000
  fl : w.Found.length ≤ 1000000
  u : ∀ l ∈ w.Tree.Levels, ∀ x ∈ l, U64 x

theorem check_good {w : api_Walk} (h : wchkS w = 0) : checkS w.Tree = 0 ∧ rngS w = false ∧ formS w = true := by
  unfold wchkS at h
  split at h
  · rename_i h1
    split at h
    · cases h
    · rename_i h2
      split at h
      · rename_i h3
        exact ⟨h1, by simpa using h2, h3⟩
      · cases h
  · rename_i h1; exact absurd h h1
theorem check_open {w : api_Walk} (h : wchkS w = 0) (hd : w.Done = false) : w.Found = [] ∧ w.Pending ≠ [] ∧ checkE w.Pending ((levelS w).length : Int) = 0 := by
  have := (check_good h).2.2
  unfold formS at this
  rw [hd] at this
  simp only [Bool.false_eq_true, if_false, Bool.and_eq_true, Bool.not_eq_true', decide_eq_false_iff_not, decide_eq_true_eq] at this
  obtain ⟨⟨h1, h2⟩, h3⟩ := this
  refine ⟨List.length_eq_zero_iff.1 (by omega), fun e => by rw [e] at h1; exact h1 rfl, h3⟩
theorem shp_head0 : ∀ {L : List (List Int)} {n : Nat}, shp L n = true → (L.getD 0 []).length = n
  | [], _, h => by simp [shp] at h
  | [l], n, h => by simp [shp] at h; simp; omega
  | l :: m :: r, n, h => by simp [shp] at h; simp [h]
theorem leaf_lt {size leaf n : Int} (h1 : 1 ≤ size) (h3 : 1 ≤ leaf) (hn : 0 ≤ n) (h : n.toNat < leavesS size leaf) : n * leaf < size := by
  unfold leavesS at h
  have h2 : n + 1 ≤ (size + leaf - 1) / leaf := by omega
  have := (Int.le_ediv_iff_mul_le (by omega)).1 h2
  rw [Int.add_mul] at this
  omega

def w0 : api_Walk := ⟨⟨0, 0, []⟩, [], 0, [], 0, false⟩
def stepD (w : api_Walk) (m : api_Message) : List Int := differS (nodesS w.Pending) m.Body (levelS w)
def sentD (w : api_Walk) : Int := w.Sent + ((nodesS w.Pending).length : Int)
def downS (w : api_Walk) (d : List Int) : api_Walk := ⟨w.Tree, foldX (oneS (belowS (w.Tree.Levels.getD (w.Level - 1).toNat []).length d)), w.Level - 1, [], sentD w, false⟩
def moveS (w : api_Walk) (d : List Int) : api_Walk × List api_Message × Int :=
  if w.Level = 0 then (⟨w.Tree, [], 0, foldX (secs w.Tree.Size w.Tree.Leaf d), sentD w, true⟩, [], 0)
  else if d = [] then (⟨w.Tree, [], 0, [], sentD w, true⟩, [], 0)
  else (downS w d, [requestS (downS w d)], 0)
def learnS (w : api_Walk) (m : api_Message) : api_Walk × List api_Message × Int :=
  if wchkS w ≠ 0 then (w0, [], wchkS w) else if w.Done = true then (w0, [], 12) else if m.Kind ≠ 14 then (w0, [], 1) else
  if m.Number ≠ w.Level ∨ m.Values ≠ valuesS w then (w0, [], 22) else if m.Body.length ≠ 8 * (nodesS w.Pending).length then (w0, [], 3) else moveS w (stepD w m)

/-- What holds of a walk that is open and passes the check. -/
structure Open (w : api_Walk) : Prop where
  good : checkS w.Tree = 0
  lv : 0 ≤ w.Level ∧ w.Level.toNat < w.Tree.Levels.length
  lb : w.Level ≤ 5000
  sent : 0 ≤ w.Sent ∧ w.Sent ≤ 8192
  found : w.Found = []
  done : w.Done = false
  pend : w.Pending ≠ []
  sep : Sep w.Pending
  nodes : ∀ n ∈ nodesS w.Pending, 0 ≤ n ∧ n.toNat < (levelS w).length
  len : (levelS w).length ≤ 4096
theorem Open.of {w : api_Walk} (h : wchkS w = 0) (hd : w.Done = false) : Open w := by
  obtain ⟨h1, h2, h3⟩ := check_good h
  obtain ⟨l1, l2, l3, l4, _⟩ := lv_of_rng h2
  obtain ⟨f1, f2, f3⟩ := check_open h hd
  obtain ⟨_, _, _, _, _, g6, g7⟩ := good_levels h1
  have hc := inside_of_check f3
  refine ⟨h1, ⟨l1, l2⟩, by omega, ⟨l3, l4⟩, f1, hd, f2, sep_of_check f3, nodes_in hc.1 hc.2, ?_⟩
  unfold levelS
  rw [List.getD_eq_getElem?_getD, List.getElem?_eq_getElem l2]
  exact g7 _ (List.getElem_mem _)
theorem Open.rise {w : api_Walk} (h : Open w) (m : api_Message) : Rising (stepD w m) ∧ (∀ n ∈ stepD w m, 0 ≤ n ∧ n.toNat < (levelS w).length) ∧ (stepD w m).length ≤ 4096 := by
  have hs := differ_sub (nodesS w.Pending) m.Body (levelS w)
  refine ⟨List.Pairwise.sublist hs (nodes_rising h.sep), fun n hn => h.nodes n (hs.subset hn), ?_⟩
  have := hs.length_le
  have := sep_nodes h.sep
  unfold stepD; omega
theorem Open.leaf {w : api_Walk} (h : Open w) (h0 : w.Level = 0) {n : Int} (hn : 0 ≤ n ∧ n.toNat < (levelS w).length) : 0 ≤ n ∧ n * w.Tree.Leaf < w.Tree.Size := by
  obtain ⟨g1, g2, g3, g4, g5, _⟩ := good_levels h.good
  have := shp_head0 g5
  unfold levelS at hn
  rw [h0] at hn
  have e : (0 : Int).toNat = 0 := rfl
  rw [e, this] at hn
  exact ⟨hn.1, leaf_lt g1 g3 hn.1 hn.2⟩
theorem Open.below {w : api_Walk} (h : Open w) (h0 : w.Level ≠ 0) : (w.Level - 1).toNat < w.Tree.Levels.length ∧ (w.Tree.Levels.getD (w.Level - 1).toNat []).length ≤ 4096 := by
  obtain ⟨g1, g2, g3, g4, g5, g6, g7⟩ := good_levels h.good
  have h1 := h.lv
  have h2 : (w.Level - 1).toNat < w.Tree.Levels.length := by omega
  refine ⟨h2, ?_⟩
  rw [List.getD_eq_getElem?_getD, List.getElem?_eq_getElem h2]
  exact g7 _ (List.getElem_mem _)
theorem below_sep {w : api_Walk} (h : Open w) (m : api_Message) (h0 : w.Level ≠ 0) : Sep (downS w (stepD w m)).Pending := by
  obtain ⟨r1, r2, r3⟩ := h.rise m
  have hl := h.len
  exact foldX_sep (one_chain (below_rising r1) (below_bd (h.below h0).2 fun n hn => by have := r2 n hn; omega))

theorem learn_eq {w : api_Walk} {m : api_Message} (hw : WOK w) (hv : m.Values.length ≤ lim) (hu : ∀ x ∈ m.Body, U8 x) : f_compare_Learn w m = some (learnS w m) := by
  unfold f_compare_Learn learnS
  rw [wcheck_eq hw.lv hw.p hw.f]
  simp only [Option.bind_some]
  by_cases h1 : wchkS w = 0
  · rw [if_neg (show ¬ ((!decide (wchkS w = 0)) = true) by simp [h1]), if_neg (show ¬ (wchkS w ≠ 0) by simp [h1])]
    obtain ⟨h2, h3, h4⟩ := check_good h1
    obtain ⟨_, _, _, _, _, g6, g7⟩ := good_levels h2
    rw [copied_eq (by omega) (fun l hl => by have := g7 l hl; omega)]
    simp only [Option.bind_some]
    rw [show (⟨w.Tree, w.Pending, w.Level, w.Found, w.Sent, w.Done⟩ : api_Walk) = w from rfl, request_eq hw.pl]
    simp only [Option.bind_some]
    rcases Bool.eq_false_or_eq_true w.Done with hd | hd
    · simp only [hd, if_true]; rfl
    · simp only [hd, Bool.false_eq_true, if_false]
      have ho := Open.of h1 hd
      by_cases h5 : m.Kind = 14
      · rw [if_neg (show ¬ ((!decide (m.Kind = 14)) = true) by simp [h5]), if_neg (show ¬ (m.Kind ≠ 14) by simp [h5])]
        rw [eqInt hv]
        simp only [Option.bind_some]
        have e1 : (if (!decide (m.Number = (requestS w).Number)) = true then some true else some (!decide (m.Values = (requestS w).Values))) = some (decide (m.Number ≠ w.Level ∨ m.Values ≠ valuesS w)) := by
          rw [show (requestS w).Number = w.Level from rfl, show (requestS w).Values = valuesS w from rfl]
          by_cases a : m.Number = w.Level <;> by_cases b : m.Values = valuesS w <;> simp [a, b]
        rw [e1]
        simp only [Option.bind_some]
        by_cases h6 : m.Number ≠ w.Level ∨ m.Values ≠ valuesS w
        · rw [if_pos (show decide (m.Number ≠ w.Level ∨ m.Values ≠ valuesS w) = true by simpa using h6), if_pos h6]; rfl
        · rw [if_neg (show ¬ (decide (m.Number ≠ w.Level ∨ m.Values ≠ valuesS w) = true) by simpa using h6), if_neg h6, count_eq ho.sep]
          simp only [Option.bind_some]
          have hnl := sep_nodes ho.sep
          rw [w64 (n := 8 * ((nodesS w.Pending).length : Int)) (by omega) (by omega)]
          by_cases h7 : m.Body.length = 8 * (nodesS w.Pending).length
          · rw [if_neg (show ¬ ((!decide ((m.Body.length : Int) = 8 * ((nodesS w.Pending).length : Int))) = true) by simp; omega), if_neg (show ¬ (m.Body.length ≠ 8 * (nodesS w.Pending).length) by simp [h7])]
            rw [differing_eq ho.lv ho.sep.1 ho.nodes h7 (by omega) ⟨ho.sent.1, by have := ho.sent.2; omega⟩]
            simp only [Option.bind_some]
            have hr := ho.rise m
            have hll := ho.len
            rw [show differS (nodesS w.Pending) m.Body (levelS w) = stepD w m from rfl]
            unfold moveS
            by_cases h8 : w.Level = 0
            · rw [if_pos (by simpa using h8), if_pos h8]
              obtain ⟨q1, q2, q3, q4, _⟩ := good_levels h2
              rw [find_eq (w := { w with Sent := w.Sent + ((nodesS w.Pending).length : Int) }) hr.1 (by exact q3) (by exact q4) (by exact q2) (fun n hn => ho.leaf h8 (hr.2.1 n hn)) (by omega)]
              rfl
            · rw [if_neg (by simpa using h8), if_neg h8]
              by_cases h9 : stepD w m = []
              · rw [if_pos (by simp [h9]), if_pos h9]
                simp only [f_compare_walk_finish, Option.bind_some, Fl.then_go]
                rw [ho.found]; rfl
              · have h10 : (stepD w m).length ≠ 0 := fun e => h9 (List.length_eq_zero_iff.1 e)
                rw [if_neg (by simpa using h9), if_neg h9]
                have hl0 := ho.lv
                have hlb := ho.lb
                rw [descend_eq (w := { w with Sent := w.Sent + ((nodesS w.Pending).length : Int) }) (by show 1 ≤ w.Level; omega) (by show w.Level ≤ 1000000; omega) (ho.below h8).1 rfl (ho.below h8).2 hr.1 (fun n hn => by have := hr.2.1 n hn; omega)]
                simp only [Option.bind_some]
                have e2 : ({ w with Level := w.Level - 1, Pending := foldX (oneS (belowS (w.Tree.Levels.getD (w.Level - 1).toNat []).length (stepD w m))), Sent := w.Sent + ((nodesS w.Pending).length : Int) } : api_Walk) = downS w (stepD w m) := by
                  unfold downS sentD
                  rw [ho.found, hd]
                rw [e2, request_eq (by have := sep_short (below_sep ho m h8); omega)]
                rfl
          · rw [if_pos (show (!decide ((m.Body.length : Int) = 8 * ((nodesS w.Pending).length : Int))) = true by simp; omega), if_pos (show m.Body.length ≠ 8 * (nodesS w.Pending).length from h7)]; rfl
      · rw [if_pos (show (!decide (m.Kind = 14)) = true by simp [h5]), if_pos (show m.Kind ≠ 14 from h5)]; rfl
  · rw [if_pos (show (!decide (wchkS w = 0)) = true by simp [h1]), if_pos (show wchkS w ≠ 0 from h1)]; rfl

theorem refLearn_eq {w : api_Walk} {m : api_Message} (hw : WOK w) (hv : m.Values.length ≤ lim) (hu : ∀ x ∈ m.Body, U8 x) : f_ref44_Learn w m = some (learnS w m) := by
  unfold f_ref44_Learn learnS
  rw [refWcheck_eq hw.lv hw.p hw.f (by have := hw.pl; simp [lim]; omega) (by have := hw.fl; simp [lim]; omega)]
  simp only [Option.bind_some]
  by_cases h1 : wchkS w = 0
  · rw [if_neg (show ¬ ((!decide (wchkS w = 0)) = true) by simp [h1]), if_neg (show ¬ (wchkS w ≠ 0) by simp [h1])]
    obtain ⟨h2, h3, h4⟩ := check_good h1
    obtain ⟨_, _, _, _, _, g6, g7⟩ := good_levels h2
    rcases Bool.eq_false_or_eq_true w.Done with hd | hd
    · simp only [hd, if_true]; rfl
    · simp only [hd, Bool.false_eq_true, if_false]
      have ho := Open.of h1 hd
      by_cases h5 : m.Kind = 14
      · rw [if_neg (show ¬ ((!decide (m.Kind = 14)) = true) by simp [h5]), if_neg (show ¬ (m.Kind ≠ 14) by simp [h5])]
        rw [refRequest_eq hw.pl]
        simp only [Option.bind_some]
        rw [sameInts_eq hv]
        simp only [Option.bind_some]
        have e1 : (if (!decide (m.Number = (requestS w).Number)) = true then some true else some (!decide (m.Values = (requestS w).Values))) = some (decide (m.Number ≠ w.Level ∨ m.Values ≠ valuesS w)) := by
          rw [show (requestS w).Number = w.Level from rfl, show (requestS w).Values = valuesS w from rfl]
          by_cases a : m.Number = w.Level <;> by_cases b : m.Values = valuesS w <;> simp [a, b]
        rw [e1]
        simp only [Option.bind_some]
        by_cases h6 : m.Number ≠ w.Level ∨ m.Values ≠ valuesS w
        · rw [if_pos (show decide (m.Number ≠ w.Level ∨ m.Values ≠ valuesS w) = true by simpa using h6), if_pos h6]; rfl
        · rw [if_neg (show ¬ (decide (m.Number ≠ w.Level ∨ m.Values ≠ valuesS w) = true) by simpa using h6), if_neg h6, refNodes_eq ho.sep.1 (by have := sep_short ho.sep; omega)]
          simp only [Option.bind_some]
          have hnl := sep_nodes ho.sep
          rw [w64 (n := 8 * ((nodesS w.Pending).length : Int)) (by omega) (by omega)]
          by_cases h7 : m.Body.length = 8 * (nodesS w.Pending).length
          · rw [if_neg (show ¬ ((!decide ((m.Body.length : Int) = 8 * ((nodesS w.Pending).length : Int))) = true) by simp; omega), if_neg (show ¬ (m.Body.length ≠ 8 * (nodesS w.Pending).length) by simp [h7])]
            have hlm : levelS w ∈ w.Tree.Levels := by
              unfold levelS
              rw [List.getD_eq_getElem?_getD, List.getElem?_eq_getElem ho.lv.2]
              exact List.getElem_mem _
            rw [refDiffer_eq (level := levelS w) ho.lv rfl ho.nodes h7 (by omega) hu (fun x hx => hw.u _ hlm x hx)]
            simp only [Option.bind_some, Fl.then_go]
            have hr := ho.rise m
            have hll := ho.len
            rw [show differS (nodesS w.Pending) m.Body (levelS w) = stepD w m from rfl]
            have hse := ho.sent
            rw [w64 (n := w.Sent + ((nodesS w.Pending).length : Int)) (by omega) (by omega)]
            rw [show w.Sent + ((nodesS w.Pending).length : Int) = sentD w from rfl]
            unfold moveS
            by_cases h8 : w.Level = 0
            · have e8 : decide (w.Level = 0) = true := by simpa using h8
              simp only [e8, if_true, Option.bind_some]
              obtain ⟨q1, q2, q3, q4, _⟩ := good_levels h2
              rw [refExtents_eq hr.1 (by exact q3) (by exact q4) (by exact q2) (fun n hn => ho.leaf h8 (hr.2.1 n hn)) (by omega)]
              simp only [Option.bind_some, Fl.then_go, if_pos h8]
            · have e8 : decide (w.Level = 0) = false := by simpa using h8
              simp only [e8, Bool.false_eq_true, if_false, Option.bind_some, if_neg h8]
              by_cases h9 : stepD w m = []
              · have e9 : decide (((stepD w m).length : Int) = 0) = true := by simp [h9]
                simp only [e9, if_true, Option.bind_some, Fl.then_go, if_pos h9]
              · have h10 : (stepD w m).length ≠ 0 := fun e => h9 (List.length_eq_zero_iff.1 e)
                have e9 : decide (((stepD w m).length : Int) = 0) = false := by simpa using h9
                simp only [e9, Bool.false_eq_true, if_false, if_neg h9]
                have hl0 := ho.lv
                have hlb := ho.lb
                rw [refBelow_eq (L := w.Tree.Levels) (lv := w.Level) (by omega) (by omega) (ho.below h8).1 rfl (ho.below h8).2 hr.1 (fun n hn => by have := hr.2.1 n hn; omega) (by omega)]
                simp only [Option.bind_some, Fl.then_go]
                have hbb := below_bd (ho.below h8).2 (d := stepD w m) (fun n hn => by have := hr.2.1 n hn; omega)
                have hbr := below_rising (len := (w.Tree.Levels.getD (w.Level - 1).toNat []).length) hr.1
                have hbl := rising_len (lo := 0) (hi := 4096) hbr hbb (by omega)
                rw [refExts_eq hbr hbb (by omega)]
                simp only [Option.bind_some]
                rw [w64 (n := w.Level - 1) (by omega) (by omega)]
                rw [show (⟨w.Tree, foldX ((belowS (w.Tree.Levels.getD (w.Level - 1).toNat []).length (stepD w m)).map fun n => (n, 1)), w.Level - 1, [], sentD w, false⟩ : api_Walk) = downS w (stepD w m) from rfl]
                rw [refRequest_eq (by have := sep_short (below_sep ho m h8); omega)]
                rfl
          · rw [if_pos (show (!decide ((m.Body.length : Int) = 8 * ((nodesS w.Pending).length : Int))) = true by simp; omega), if_pos (show m.Body.length ≠ 8 * (nodesS w.Pending).length from h7)]; rfl
      · rw [if_pos (show (!decide (m.Kind = 14)) = true by simp [h5]), if_pos (show m.Kind ≠ 14 from h5)]; rfl
  · rw [if_pos (show (!decide (wchkS w = 0)) = true by simp [h1]), if_pos (show wchkS w ≠ 0 from h1)]; rfl
end Go.Proofs.Ytogflgcngfghpaa
end

/- The shape of trees: how long the levels are. -/
section
set_option maxHeartbeats 1000000
set_option linter.unusedVariables false
set_option linter.unusedSimpArgs false
namespace Go.Proofs.Ytogflgcngfghpaa
open Go.J

theorem shp_zero_no : ∀ (L : List (List Int)), shp L 0 = false
  | [] => rfl
  | [a] => by simp [shp]
  | a :: b :: L => by
    simp only [shp]
    rw [show (0 + 1) / 2 = 0 from rfl, shp_zero_no (b :: L)]; simp
/-- The length of level i. -/
def lvLen (t : api_Tree) (i : Nat) : Nat := (t.Levels.getD i []).length
theorem shp_lv : ∀ (L : List (List Int)) (n k : Nat), shp L n = true → n ≤ 2 ^ k → ∀ i, i < L.length → i ≤ k ∧ (L.getD i []).length ≤ 2 ^ (k - i)
  | [], _, _, h, _, i, hi => by simp at hi
  | [l], n, k, h, hn, i, hi => by
    simp [shp] at h
    simp at hi; subst hi
    refine ⟨Nat.zero_le _, ?_⟩
    simp; omega
  | l :: m :: r, n, k, h, hn, i, hi => by
    have hs : shp (m :: r) ((n + 1) / 2) = true := by simp [shp] at h; exact h.2
    have hl : l.length = n ∧ n ≠ 1 := by simp [shp] at h; exact h.1
    have h0 : n ≠ 0 := fun e => by
      subst e
      rw [show (0 + 1) / 2 = 0 from rfl, shp_zero_no] at hs; cases hs
    cases k with
    | zero => simp at hn; omega
    | succ k =>
      have hn2 : (n + 1) / 2 ≤ 2 ^ k := by rw [Nat.pow_succ] at hn; omega
      cases i with
      | zero => exact ⟨Nat.zero_le _, by simp; omega⟩
      | succ i =>
        have := shp_lv (m :: r) ((n + 1) / 2) k hs hn2 i (by simpa using hi)
        refine ⟨by omega, ?_⟩
        rw [show k + 1 - (i + 1) = k - i by omega]
        simpa using this.2
theorem shp_same : ∀ (L M : List (List Int)) (n : Nat), shp L n = true → shp M n = true → L.length = M.length ∧ ∀ i, (L.getD i []).length = (M.getD i []).length
  | [], _, _, h, _ => by simp [shp] at h
  | _ :: _, [], _, _, h => by simp [shp] at h
  | [l], [m], n, h, h2 => by
    simp [shp] at h h2
    refine ⟨rfl, fun i => ?_⟩
    cases i <;> simp; omega
  | [l], m :: m2 :: M, n, h, h2 => by simp [shp] at h h2; omega
  | l :: l2 :: L, [m], n, h, h2 => by simp [shp] at h h2; omega
  | l :: l2 :: L, m :: m2 :: M, n, h, h2 => by
    simp only [shp, Bool.and_eq_true, beq_iff_eq] at h h2
    obtain ⟨e1, e2⟩ := shp_same (l2 :: L) (m2 :: M) ((n + 1) / 2) h.2 h2.2
    refine ⟨by simpa using e1, fun i => ?_⟩
    cases i with
    | zero => simp; omega
    | succ i => simpa using e2 i
theorem shp_half : ∀ (L : List (List Int)) (n : Nat), shp L n = true → ∀ i, i + 1 < L.length → (L.getD (i + 1) []).length = ((L.getD i []).length + 1) / 2 ∧ 2 ≤ (L.getD i []).length
  | [], _, h, i, hi => by simp at hi
  | [l], _, h, i, hi => by simp at hi
  | l :: m :: r, n, h, i, hi => by
    have hs : shp (m :: r) ((n + 1) / 2) = true := by simp [shp] at h; exact h.2
    have hl : l.length = n ∧ n ≠ 1 := by simp [shp] at h; exact h.1
    cases i with
    | zero =>
      have := shp_head0 hs
      have h0 : n ≠ 0 := fun e => by
        subst e
        rw [show (0 + 1) / 2 = 0 from rfl, shp_zero_no] at hs; cases hs
      simp at this ⊢
      omega
    | succ i =>
      have := shp_half (m :: r) ((n + 1) / 2) hs i (by simpa using hi)
      simpa using this
theorem shp_top : ∀ (L : List (List Int)) (n : Nat), shp L n = true → 1 ≤ L.length ∧ (L.getD (L.length - 1) []).length = 1
  | [], _, h => by simp [shp] at h
  | [l], n, h => by simp [shp] at h; simp; omega
  | l :: m :: r, n, h => by
    have hs : shp (m :: r) ((n + 1) / 2) = true := by simp [shp] at h; exact h.2
    have := shp_top (m :: r) ((n + 1) / 2) hs
    refine ⟨by simp, ?_⟩
    simpa using this.2
theorem shp_pos : ∀ (L : List (List Int)) (n : Nat), shp L n = true → ∀ i, i < L.length → 1 ≤ (L.getD i []).length
  | [], _, h, i, hi => by simp at hi
  | [l], n, h, i, hi => by simp [shp] at h; simp at hi; subst hi; simp; omega
  | l :: m :: r, n, h, i, hi => by
    have hs : shp (m :: r) ((n + 1) / 2) = true := by simp [shp] at h; exact h.2
    cases i with
    | zero =>
      have := shp_half (l :: m :: r) n h 0 (by simp)
      omega
    | succ i =>
      have := shp_pos (m :: r) ((n + 1) / 2) hs i (by simpa using hi)
      simpa using this

theorem check_of_chk {size : Int} : ∀ {l : List api_Extent} {nx : Int}, Sep l → (∀ e ∈ l, nx ≤ e.Start) → (∀ e ∈ l, e.Start + e.Count ≤ size) → chkE size l nx = 0
  | [], _, _, _, _ => rfl
  | e :: l, nx, h, hn, hs => by
    have he := h.1 e (by simp)
    have h1 := hn e (by simp)
    have h2 := hs e (by simp)
    rw [chkE, if_neg (by omega), if_neg (by omega), if_neg (by omega)]
    exact check_of_chk h.tail (fun x hx => by have := (List.pairwise_cons.1 h.2).1 x hx; omega) (fun x hx => hs x (by simp [hx]))
theorem check_of_sep {l : List api_Extent} {size : Int} (h : Sep l) (h0 : 0 ≤ size) (h1 : size ≤ 4096) (hs : ∀ e ∈ l, e.Start + e.Count ≤ size) : checkE l size = 0 := by
  unfold checkE
  rw [if_neg (by omega)]
  exact check_of_chk h (fun e he => (h.1 e he).2.1) hs
theorem ends_of_nodes {l : List api_Extent} {len : Nat} (h : Sep l) (hn : ∀ n ∈ nodesS l, 0 ≤ n ∧ n.toNat < len) : ∀ e ∈ l, e.Start + e.Count ≤ (len : Int) := fun e he => by
  have h1 := h.1 e he
  have : e.Start + ((e.Count.toNat - 1 : Nat) : Int) ∈ nodesS l := List.mem_flatMap.2 ⟨e, he, List.mem_map.2 ⟨e.Count.toNat - 1, List.mem_range.2 (by omega), rfl⟩⟩
  have := hn _ this
  omega
theorem nodes_mem {l : List api_Extent} {n : Int} : n ∈ nodesS l ↔ Cov l n := by
  constructor
  · intro hn
    obtain ⟨e, he, hn⟩ := List.mem_flatMap.1 hn
    obtain ⟨k, hk, rfl⟩ := List.mem_map.1 hn
    have hk := List.mem_range.1 hk
    exact ⟨e, he, by omega, by omega, by omega⟩
  · rintro ⟨e, he, h0, h1, h2⟩
    refine List.mem_flatMap.2 ⟨e, he, List.mem_map.2 ⟨(n - e.Start).toNat, List.mem_range.2 (by omega), ?_⟩⟩
    omega
/-- Two rising lists of the same nodes are the same. -/
theorem rising_eq : ∀ {l m : List Int}, Rising l → Rising m → (∀ x, x ∈ l ↔ x ∈ m) → l = m
  | [], [], _, _, _ => rfl
  | [], b :: m, _, _, h => by have := (h b).2 (by simp); simp at this
  | a :: l, [], _, _, h => by have := (h a).1 (by simp); simp at this
  | a :: l, b :: m, hl, hm, h => by
    have h1 := List.pairwise_cons.1 hl
    have h2 := List.pairwise_cons.1 hm
    have e : a = b := by
      have x1 : a = b ∨ a ∈ m := by simpa using (h a).1 (by simp)
      have x2 : b = a ∨ b ∈ l := by simpa using (h b).2 (by simp)
      rcases x1 with x1 | x1
      · exact x1
      · rcases x2 with x2 | x2
        · exact x2.symm
        · have := h2.1 a x1
          have := h1.1 b x2
          omega
    subst e
    congr 1
    refine rising_eq h1.2 h2.2 fun x => ?_
    constructor
    · intro hx
      have y : x = a ∨ x ∈ m := by simpa using (h x).1 (by simp [hx])
      rcases y with y | y
      · have := h1.1 x hx; omega
      · exact y
    · intro hx
      have y : x = a ∨ x ∈ l := by simpa using (h x).2 (by simp [hx])
      rcases y with y | y
      · have := h2.1 x hx; omega
      · exact y
theorem foldX_nodes {l : List Int} (h : Rising l) (hb : ∀ n ∈ l, 0 ≤ n ∧ n < 4096) : nodesS (foldX (oneS l)) = l := by
  have hc : Chain (oneS l) := one_chain h hb
  refine rising_eq (nodes_rising (foldX_sep hc)) h fun x => ?_
  rw [nodes_mem, foldX_cov hc]
  constructor
  · rintro ⟨p, hp, h1, h2⟩
    obtain ⟨n, hn, rfl⟩ := List.mem_map.1 hp
    simp only at h1 h2
    rw [show x = n by omega]; exact hn
  · intro hx
    exact ⟨(x, 1), List.mem_map.2 ⟨x, hx, rfl⟩, by simp only; omega, by simp only; omega⟩
end Go.Proofs.Ytogflgcngfghpaa
end

/- function 27 -/
section
set_option maxHeartbeats 4000000
set_option linter.unusedVariables false
set_option linter.unusedSimpArgs false
namespace Go.Proofs.Ytogflgcngfghpaa
open Go.J
def f_compare_Begin (a0 : api_Tree) : Option (api_Walk × List api_Message × Int) :=
  (f_hashtree_Check a0).bind fun x2 => if (!decide (x2 = 0)) = true then some ((⟨(⟨0, 0, []⟩ : api_Tree), [], 0, [], 0, false⟩ : api_Walk), [], x2) else (f_compare_copied a0).bind fun x4 => (f_compare_walk_request (⟨(⟨x4, [(⟨0, 1⟩ : api_Extent)], IntKind.i64.wrap ((a0.Levels.length : Int) - 1), [], 0, false⟩ : api_Walk)⟩ : compare_walk)).bind fun x6 => some ((⟨x4, [(⟨0, 1⟩ : api_Extent)], IntKind.i64.wrap ((a0.Levels.length : Int) - 1), [], 0, false⟩ : api_Walk), [x6], 0)

theorem c_compare_Begin {a0 : api_Tree} {r : api_Walk × List api_Message × Int} (h : f_compare_Begin a0 = some r) : Ct Try.prog 27 [r_api_Tree.at a0] [] (fun _ : Unit => Pr.tup [r_api_Walk.at r.1, (Rep.sl r_api_Message 8).at r.2.1, (Rep.int .i64).at r.2.2]) (fun _ => []) := by
  refine Ct.mk Try.func27 rfl Try.ntmps27 (by simp) fun I R => ?_
  refine J.drop0 ?_
  unfold f_compare_Begin at h
  refine J_seq ?_
  refine J_region ?_
  refine JLe0 (T_box (ρ := r_api_Tree) (.mk rfl)) rfl .none ?_
  refine JLa (T_alloc z41 lay_api_Walk) rfl .none fun b1 => ?_
  refine JLp (T_assign rfl) rfl (nofun) .none ?_
  refine JLp (T_assign rfl) rfl (nofun) .none ?_
  refine JL_nil ?_
  refine KJ_nrm_then (KJ_J ?_)
  refine J_seq ?_
  refine J_seq ?_
  refine J_region ?_
  refine JLp (T_load ty24 rfl) rfl (nofun) .none ?_
  replace h := bnd h; obtain ⟨x2, hx2, h⟩ := h
  refine JLe0 (T_call ⟨_, Try.func32, rfl, rfl⟩ (c_hashtree_Check hx2) ⟨(.mk rfl), trivial⟩) rfl .none ?_
  refine JLp (T_assign rfl) rfl (nofun) .none ?_
  refine JL_nil ?_
  refine KJ_nrm_then (KJ_J ?_)
  refine J_seq ?_
  refine J_region ?_
  refine JLp (T_move rfl) rfl (nofun) .none ?_
  refine JLp (T_neq rfl rfl) rfl (nofun) .none ?_
  refine JL_nil ?_
  refine KJ_nrm_then (KJ_J ?_)
  refine J_test rfl (fun hq3 => ?_) (fun hq3 => ?_)
  · replace h := ift hq3 h
    refine J_seq ?_
    refine J_region ?_
    refine JLp (T_build (s' := (⟨(⟨0, 0, []⟩ : api_Tree), [], 0, [], 0, false⟩ : api_Walk)) bd41 z41 lay_api_Walk .nil) rfl (nofun) .none ?_
    refine JLp (T_move rfl) rfl (nofun) .none ?_
    refine JLn1 (T_store ty41 rfl (.mk rfl) (SetF.self lay_api_Walk)) .none ?_
    refine JLp (T_assign rfl) rfl (nofun) .none ?_
    refine JLp (T_assign rfl) rfl (nofun) .none ?_
    refine JL_nil ?_
    refine KJ_nrm_then (KJ_J ?_)
    refine J_ret ?_
    refine KJ_ret_then ?_
    obtain rfl := inj h
    exact KJ_retnc () [Ent.box b1 r_api_Walk (⟨(⟨0, 0, []⟩ : api_Tree), [], 0, [], 0, false⟩ : api_Walk)] rfl Try.results27 (.cell ty41 rfl (by simp) (.tmp (.nilc rfl) (.tmp (.mk rfl) Rv.nil))) rfl (by simp) rfl
  · replace h := iff_ hq3 h
    refine J_skip ?_
    refine KJ_nrm_then (KJ_J ?_)
    refine J_seq ?_
    replace h := bnd h; obtain ⟨x4, hx4, h⟩ := h
    refine J_drawR (Ks := []) rfl (by kernel_rfl) fun K hK => ?_
    refine DR.p (.base (t := 1) rfl .nil) (T_load ty24 rfl) .none rfl rfl (nofun) ?_
    refine DR.e (.dep 0 0 rfl rfl rfl .nil) (T_call ⟨_, Try.func43, rfl, rfl⟩ (c_compare_copied hx4) ⟨(.mk rfl), trivial⟩) .none rfl rfl ?_
    refine DR.p (.base (t := 1) rfl .nil) (T_faddri fo24_2 rfl hf_api_Tree_Levels) .none rfl rfl (nofun) ?_
    refine DR.p (.dep 2 0 rfl rfl rfl .nil) (T_load ty22 rfl) .none rfl rfl (nofun) ?_
    refine DR.p (.dep 3 0 rfl rfl rfl .nil) (T_len (ρ := (Rep.sl (Rep.int .u64) 1)) sl22 (.mk rfl)) .none rfl rfl (nofun) ?_
    refine DR.p (.dep 4 0 rfl rfl rfl .nil) (T_sub rfl rfl) .none rfl rfl (nofun) ?_
    refine DR.p .nil (T_build (s' := (⟨0, 1⟩ : api_Extent)) bd62 z62 lay_api_Extent (.cons (π := (Rep.int .i64)) (.mk rfl) rfl (Lay.int _) sf_api_Extent_Start (.cons (π := (Rep.int .i64)) (.mk rfl) rfl (Lay.int _) sf_api_Extent_Count .nil))) .none rfl rfl (nofun) ?_
    refine DR.e (.dep 6 0 rfl rfl rfl .nil) (T_bslice (ρ := r_api_Extent) sl39 lay_api_Extent (.cons (.mk rfl) .nil) rfl (by decide)) .none rfl rfl ?_
    refine DR.tail (by kernel_rfl) (.refl _) rfl ?_
    simp only [List.reverse_cons, List.reverse_nil, List.nil_append, List.cons_append, DT]
    refine JLp (T_build (s' := (⟨x4, [(⟨0, 1⟩ : api_Extent)], IntKind.i64.wrap ((a0.Levels.length : Int) - 1), [], 0, false⟩ : api_Walk)) bd41 z41 lay_api_Walk (.cons (π := r_api_Tree) (.mk rfl) rfl lay_api_Tree sf_api_Walk_Tree (.cons (π := (Rep.int .i64)) (.mk rfl) rfl (Lay.int _) sf_api_Walk_Level (.cons (π := (Rep.sl r_api_Extent 2)) (.mk rfl) rfl (Lay.sl _ _) sf_api_Walk_Pending .nil)))) rfl (nofun) .none ?_
    refine JLp (T_build (s' := (⟨(⟨x4, [(⟨0, 1⟩ : api_Extent)], IntKind.i64.wrap ((a0.Levels.length : Int) - 1), [], 0, false⟩ : api_Walk)⟩ : compare_walk)) bd98 z98 lay_compare_walk (.cons (π := r_api_Walk) (.mk rfl) rfl lay_api_Walk sf_compare_walk_Walk .nil)) rfl (nofun) .none ?_
    refine JLa (T_boxm (.mk rfl) lay_compare_walk) rfl .none fun b5 => ?_
    refine JLp (T_assign rfl) rfl (nofun) .none ?_
    refine JL_nil (KJ_hid hK ?_)
    refine KJ_nrm_then (KJ_J ?_)
    refine J_seq ?_
    refine J.perm F1 ?_
    replace h := bnd h; obtain ⟨x6, hx6, h⟩ := h
    refine J_drawR (Ks := [Ent.box b1 r_api_Walk (⟨(⟨0, 0, []⟩ : api_Tree), [], 0, [], 0, false⟩ : api_Walk)]) rfl (by kernel_rfl) fun K hK => ?_
    refine DR.p (.base (t := 6) rfl .nil) (T_move rfl) .none rfl rfl (nofun) ?_
    refine DR.p (.dep 0 0 rfl rfl rfl .nil) (T_nilchk rfl) .none rfl rfl (nofun) ?_
    refine DR.p (.dep 1 0 rfl rfl rfl .nil) (T_faddr fo98_0 rfl) .none rfl rfl (nofun) ?_
    refine DR.p (.dep 2 0 rfl rfl rfl .nil) (T_loadb ty41 rfl hf_compare_walk_Walk) .none rfl rfl B0 ?_
    refine DR.p (.base (t := 6) rfl .nil) (T_move rfl) .none rfl rfl (nofun) ?_
    refine DR.b (.dep 4 0 rfl rfl rfl .nil) (T_call ⟨_, Try.func44, rfl, rfl⟩ (c_compare_walk_request hx6) ⟨.mk rfl, trivial⟩) .none rfl rfl B0 ?_
    refine DR.e (.dep 5 0 rfl rfl rfl .nil) (T_bslice (ρ := r_api_Message) sl43 lay_api_Message (.cons (.mk rfl) .nil) rfl (by decide)) .none rfl rfl ?_
    refine DR.w (κ := [Ent.box b1 r_api_Walk (⟨(⟨0, 0, []⟩ : api_Tree), [], 0, [], 0, false⟩ : api_Walk)]) (ε := [Ent.box b1 r_api_Walk (⟨x4, [(⟨0, 1⟩ : api_Extent)], IntKind.i64.wrap ((a0.Levels.length : Int) - 1), [], 0, false⟩ : api_Walk)]) (.base (t := 2) rfl (.dep 3 3 rfl rfl rfl .nil)) (T_store ty41 rfl (.mk rfl) (SetF.self lay_api_Walk)) .none ?_
    refine DR.tail (by kernel_rfl) (.refl _) rfl ?_
    simp only [List.reverse_cons, List.reverse_nil, List.nil_append, List.cons_append, DT]
    refine JLp (T_assign rfl) rfl (nofun) .none ?_
    refine JLp (T_assign rfl) rfl (nofun) .none ?_
    refine JL_nil (KJ_hid hK ?_)
    refine KJ_nrm_then (KJ_J ?_)
    refine J_ret ?_
    obtain rfl := inj h
    exact KJ_retnc () [Ent.box b1 r_api_Walk (⟨x4, [(⟨0, 1⟩ : api_Extent)], IntKind.i64.wrap ((a0.Levels.length : Int) - 1), [], 0, false⟩ : api_Walk), Ent.box b5 r_compare_walk (⟨(⟨x4, [(⟨0, 1⟩ : api_Extent)], IntKind.i64.wrap ((a0.Levels.length : Int) - 1), [], 0, false⟩ : api_Walk)⟩ : compare_walk)] rfl Try.results27 (.cell ty41 rfl (by simp) (.tmp (.mk rfl) (.tmp (.mk rfl) Rv.nil))) rfl (by simp) rfl
end Go.Proofs.Ytogflgcngfghpaa
end

/- function 21 -/
section
set_option maxHeartbeats 4000000
set_option linter.unusedVariables false
set_option linter.unusedSimpArgs false
namespace Go.Proofs.Ytogflgcngfghpaa
open Go.J
def f_compare_Run (a0 : api_Tree) (a1 : api_Tree) : Option (List api_Extent × Int × Int) :=
  (f_compare_Begin a0).bind fun x1 => ((if (decide (x1.2.2 = 0)) = true then (f_hashtree_Check a1).bind fun x8 => some (Fl.go x8) else some (Fl.go x1.2.2) : Option (Fl (Int) (List api_Extent × Int × Int)))).bind fun o4 => o4.then fun s6 => (if (decide (s6 = 0)) = true then (if (!decide (a0.Size = a1.Size)) = true then some true else some (!decide (a0.Leaf = a1.Leaf))).bind fun c11 => some c11 else some false).bind fun c9 => ((if c9 = true then some (Fl.go 22) else some (Fl.go s6) : Option (Fl (Int) (List api_Extent × Int × Int)))).bind fun o14 => o14.then fun s16 => (whileF (σ := List api_Message × Int × api_Walk) (ρ := List api_Extent × Int × Int) (fun s18 => (if (decide (s18.2.1 = 0)) = true then some (decide (0 < (s18.1.length : Int))) else some false).bind fun c25 => if c25 = true then (idx s18.1 0).bind fun x29 => (f_compare_Answer a1 x29).bind fun x30 => ((if (decide (x30.2 = 0)) = true then (f_compare_Learn s18.2.2 x30.1).bind fun x36 => some (Fl.go (x36.2.1, x36.2.2, x36.1)) else some (Fl.go (s18.1, x30.2, s18.2.2)) : Option (Fl (List api_Message × Int × api_Walk) (Rd (List api_Message × Int × api_Walk) (List api_Extent × Int × Int))))).bind fun o32 => o32.then fun s34 => some (Rd.next (s34.1, s34.2.1, s34.2.2)) else some (Rd.done (s18.1, s18.2.1, s18.2.2))) bigK (x1.2.1, s16, x1.1)).bind fun o20 => o20.then fun s18 => if (!decide (s18.2.1 = 0)) = true then some ([], 0, s18.2.1) else some (s18.2.2.Found, s18.2.2.Sent, 0)

theorem c_compare_Run {a0 : api_Tree} {a1 : api_Tree} {r : List api_Extent × Int × Int} (h : f_compare_Run a0 a1 = some r) : Ct Try.prog 21 [r_api_Tree.at a0, r_api_Tree.at a1] [] (fun _ : Unit => Pr.tup [(Rep.sl r_api_Extent 2).at r.1, (Rep.int .i64).at r.2.1, (Rep.int .i64).at r.2.2]) (fun _ => []) := by
  refine Ct.mk Try.func21 rfl Try.ntmps21 (by simp) fun I R => ?_
  refine J.drop0 ?_
  unfold f_compare_Run at h
  refine J_seq ?_
  refine J_region ?_
  refine JLe0 (T_box (ρ := r_api_Tree) (.mk rfl)) rfl .none ?_
  refine JLe0 (T_box (ρ := r_api_Tree) (.mk rfl)) rfl .none ?_
  refine JLp (T_assign rfl) rfl (nofun) .none ?_
  refine JLp (T_assign rfl) rfl (nofun) .none ?_
  refine JLp (T_assign rfl) rfl (nofun) .none ?_
  refine JL_nil ?_
  refine KJ_nrm_then (KJ_J ?_)
  refine J_seq ?_
  refine J_region ?_
  refine JLp (T_load ty24 rfl) rfl (nofun) .none ?_
  replace h := bnd h; obtain ⟨x1, hx1, h⟩ := h
  refine JLe0 (T_call ⟨_, Try.func27, rfl, rfl⟩ (c_compare_Begin hx1) ⟨(.mk rfl), trivial⟩) rfl .none ?_
  refine JLp (T_move rfl) rfl (nofun) .none ?_
  refine JLp (T_extract rfl rfl) rfl (nofun) .none ?_
  refine JLp (T_extract rfl rfl) rfl (nofun) .none ?_
  refine JLp (T_extract rfl rfl) rfl (nofun) .none ?_
  refine JLa (T_alloc z41 lay_api_Walk) rfl .none fun b2 => ?_
  refine JLn1 (T_store ty41 rfl (.mk rfl) (SetF.self lay_api_Walk)) .none ?_
  refine JLp (T_assign rfl) rfl (nofun) .none ?_
  refine JLp (T_assign rfl) rfl (nofun) .none ?_
  refine JL_nil ?_
  refine KJ_nrm_then (KJ_J ?_)
  refine J_seq ?_
  refine J_seq ?_
  refine J_region ?_
  refine JLp (T_move rfl) rfl (nofun) .none ?_
  refine JLp (T_eql rfl rfl) rfl (nofun) .none ?_
  refine JL_nil ?_
  refine KJ_nrm_then (KJ_J ?_)
  replace h := bnd h; obtain ⟨o4, ho5, h⟩ := h
  refine J_cuto o4 (fun (s6 : Int) (g7 : Unit) => [(2, (Rep.iptr r_api_Tree).at a0), (3, (Rep.iptr r_api_Tree).at a1), (7, Rep.ptr.at (b2, 0)), (8, (Rep.sl r_api_Message 8).at x1.2.1), (9, (Rep.int .i64).at s6)]) (fun s6 g7 => Ent.box b2 r_api_Walk x1.1 :: R) ?_ ?_
  · refine J_test rfl (fun hq3 => ?_) (fun hq3 => ?_)
    · replace ho5 := ift hq3 ho5
      refine J_region ?_
      refine JLp (T_load ty24 rfl) rfl (nofun) .none ?_
      replace ho5 := bnd ho5; obtain ⟨x8, hx8, ho5⟩ := ho5
      refine JLe0 (T_call ⟨_, Try.func32, rfl, rfl⟩ (c_hashtree_Check hx8) ⟨(.mk rfl), trivial⟩) rfl .none ?_
      refine JLp (T_assign rfl) rfl (nofun) .none ?_
      refine JL_nil ?_
      refine KJ_nrm_kq ?_
      exact KJ_ot x8 () (inj ho5) (.cons rfl (.cons rfl (.cons rfl (.cons rfl (.cons rfl (.nil _)))))) rfl
    · replace ho5 := iff_ hq3 ho5
      refine J_skip ?_
      refine KJ_nrm_kq ?_
      exact KJ_ot x1.2.2 () (inj ho5) (.cons rfl (.cons rfl (.cons rfl (.cons rfl (.cons rfl (.nil _)))))) rfl
  · intro s6 g7 hs
    subst hs
    replace h := thn h
    refine KJ_nrm_then (KJ_J ?_)
    refine J_seq ?_
    refine J_seq ?_
    refine J_region ?_
    refine JLp (T_move rfl) rfl (nofun) .none ?_
    refine JLp (T_eql rfl rfl) rfl (nofun) .none ?_
    refine JLp (T_move rfl) rfl (nofun) .none ?_
    replace h := bnd h; obtain ⟨c9, hc9, h⟩ := h
    refine JL_at 13 [(3, (Rep.iptr r_api_Tree).at a1), (7, Rep.ptr.at (b2, 0)), (8, (Rep.sl r_api_Message 8).at x1.2.1), (9, (Rep.int .i64).at s6), (36, Rep.bool.at c9)] (Ent.box b2 r_api_Walk x1.1 :: R) ?_ ?_
    · rcases Bool.eq_false_or_eq_true (decide (s6 = 0)) with hq10 | hq10
      · replace hc9 := ift hq10 hc9
        refine JLp (T_faddri fo24_0 rfl hf_api_Tree_Size) rfl (nofun) (.y rfl rfl hq10) ?_
        refine JLp (T_load ty3 rfl) rfl (nofun) (.y rfl rfl hq10) ?_
        refine JLp (T_faddri fo24_0 rfl hf_api_Tree_Size) rfl (nofun) (.y rfl rfl hq10) ?_
        refine JLp (T_load ty3 rfl) rfl (nofun) (.y rfl rfl hq10) ?_
        refine JLp (T_neq rfl rfl) rfl (nofun) (.y rfl rfl hq10) ?_
        refine JLp (T_move rfl) rfl (nofun) (.y rfl rfl hq10) ?_
        replace hc9 := bnd hc9; obtain ⟨c11, hc11, hc9⟩ := hc9
        refine JL_at 6 [(3, (Rep.iptr r_api_Tree).at a1), (7, Rep.ptr.at (b2, 0)), (8, (Rep.sl r_api_Message 8).at x1.2.1), (9, (Rep.int .i64).at s6), (23, Rep.bool.at (decide (s6 = 0))), (35, Rep.bool.at c11)] (Ent.box b2 r_api_Walk x1.1 :: R) ?_ ?_
        · rcases Bool.eq_false_or_eq_true (!decide (a0.Size = a1.Size)) with hq12 | hq12
          · replace hc11 := ift hq12 hc11
            obtain rfl := inj hc11
            refine JLs rfl rfl hq12 rfl ?_
            refine JLs rfl rfl hq12 rfl ?_
            refine JLs rfl rfl hq12 rfl ?_
            refine JLs rfl rfl hq12 rfl ?_
            refine JLs rfl rfl hq12 rfl ?_
            refine JLp (T_pickT rfl hq12 rfl) rfl (nofun) (.y rfl rfl hq10) ?_
            refine JL_nil ?_
            exact KJ.sub KJ_end (.cons rfl (.cons rfl (.cons rfl (.cons rfl (.cons rfl (.cons rfl (.nil _)))))))
          · replace hc11 := iff_ hq12 hc11
            refine JLp (T_faddri fo24_1 rfl hf_api_Tree_Leaf) rfl (nofun) (.y rfl rfl hq12) ?_
            refine JLp (T_load ty3 rfl) rfl (nofun) (.y rfl rfl hq12) ?_
            refine JLp (T_faddri fo24_1 rfl hf_api_Tree_Leaf) rfl (nofun) (.y rfl rfl hq12) ?_
            refine JLp (T_load ty3 rfl) rfl (nofun) (.y rfl rfl hq12) ?_
            refine JLp (T_neq rfl rfl) rfl (nofun) (.y rfl rfl hq12) ?_
            obtain rfl := inj hc11
            refine JLp (T_pickF rfl hq12 rfl) rfl (nofun) (.y rfl rfl hq10) ?_
            refine JL_nil ?_
            exact KJ.sub KJ_end (.cons rfl (.cons rfl (.cons rfl (.cons rfl (.cons rfl (.cons rfl (.nil _)))))))
        obtain rfl := inj hc9
        refine JLp (T_pickT rfl hq10 rfl) rfl (nofun) .none ?_
        refine JL_nil ?_
        exact KJ.sub KJ_end (.cons rfl (.cons rfl (.cons rfl (.cons rfl (.cons rfl (.nil _))))))
      · replace hc9 := iff_ hq10 hc9
        obtain rfl := inj hc9
        refine JLs rfl rfl hq10 rfl ?_
        refine JLs rfl rfl hq10 rfl ?_
        refine JLs rfl rfl hq10 rfl ?_
        refine JLs rfl rfl hq10 rfl ?_
        refine JLs rfl rfl hq10 rfl ?_
        refine JLs rfl rfl hq10 rfl ?_
        refine JLu rfl rfl rfl ?_
        refine JLu rfl rfl rfl ?_
        refine JLu rfl rfl rfl ?_
        refine JLu rfl rfl rfl ?_
        refine JLu rfl rfl rfl ?_
        refine JLs rfl rfl hq10 rfl ?_
        refine JLp (T_pickF rfl hq10 rfl) rfl (nofun) .none ?_
        refine JL_nil ?_
        exact KJ.sub KJ_end (.cons rfl (.cons rfl (.cons rfl (.cons rfl (.cons rfl (.nil _))))))
    refine JL_nil ?_
    refine KJ_nrm_then (KJ_J ?_)
    replace h := bnd h; obtain ⟨o14, ho15, h⟩ := h
    refine J_cuto o14 (fun (s16 : Int) (g17 : Unit) => [(3, (Rep.iptr r_api_Tree).at a1), (7, Rep.ptr.at (b2, 0)), (8, (Rep.sl r_api_Message 8).at x1.2.1), (9, (Rep.int .i64).at s16)]) (fun s16 g17 => Ent.box b2 r_api_Walk x1.1 :: R) ?_ ?_
    · refine J_test rfl (fun hq13 => ?_) (fun hq13 => ?_)
      · replace ho15 := ift hq13 ho15
        refine J_region ?_
        refine JLp (T_assign rfl) rfl (nofun) .none ?_
        refine JL_nil ?_
        refine KJ_nrm_kq ?_
        exact KJ_ot 22 () (inj ho15) (.cons rfl (.cons rfl (.cons rfl (.cons rfl (.nil _))))) rfl
      · replace ho15 := iff_ hq13 ho15
        refine J_skip ?_
        refine KJ_nrm_kq ?_
        exact KJ_ot s6 () (inj ho15) (.cons rfl (.cons rfl (.cons rfl (.cons rfl (.nil _))))) rfl
    · intro s16 g17 hs
      subst hs
      replace h := thn h
      refine KJ_nrm_then (KJ_J ?_)
      refine J_seq ?_
      replace h := bnd h; obtain ⟨o20, ho21, h⟩ := h
      refine J_cuto o20 (fun (s18 : List api_Message × Int × api_Walk) (g19 : Unit) => [(7, Rep.ptr.at (b2, 0)), (9, (Rep.int .i64).at s18.2.1)]) (fun s18 g19 => Ent.box b2 r_api_Walk s18.2.2 :: R) ?_ ?_
      · refine J_block ?_
        refine J_while ho21 (fun (s18 : List api_Message × Int × api_Walk) (g19 : Unit) => [(3, (Rep.iptr r_api_Tree).at a1), (7, Rep.ptr.at (b2, 0)), (8, (Rep.sl r_api_Message 8).at s18.1), (9, (Rep.int .i64).at s18.2.1)]) (fun s18 g19 => Ent.box b2 r_api_Walk s18.2.2 :: R) () (.cons rfl (.cons rfl (.cons rfl (.cons rfl (.nil _))))) rfl ?_
        intro s18 g19 st24 hb22 hf23
        refine J_seq ?_
        refine J_seq ?_
        refine J_region ?_
        refine JLp (T_move rfl) rfl (nofun) .none ?_
        refine JLp (T_eql rfl rfl) rfl (nofun) .none ?_
        refine JLp (T_move rfl) rfl (nofun) .none ?_
        replace hb22 := bnd hb22; obtain ⟨c25, hc25, hb22⟩ := hb22
        refine JL_at 4 [(3, (Rep.iptr r_api_Tree).at a1), (7, Rep.ptr.at (b2, 0)), (8, (Rep.sl r_api_Message 8).at s18.1), (9, (Rep.int .i64).at s18.2.1), (43, Rep.bool.at c25)] (Ent.box b2 r_api_Walk s18.2.2 :: R) ?_ ?_
        · rcases Bool.eq_false_or_eq_true (decide (s18.2.1 = 0)) with hq26 | hq26
          · replace hc25 := ift hq26 hc25
            refine JLp (T_move rfl) rfl (nofun) (.y rfl rfl hq26) ?_
            refine JLp (T_len (ρ := r_api_Message) sl43 (.mk rfl)) rfl (nofun) (.y rfl rfl hq26) ?_
            refine JLp (T_gtr rfl rfl) rfl (nofun) (.y rfl rfl hq26) ?_
            obtain rfl := inj hc25
            refine JLp (T_pickT rfl hq26 rfl) rfl (nofun) .none ?_
            refine JL_nil ?_
            exact KJ.sub KJ_end (.cons rfl (.cons rfl (.cons rfl (.cons rfl (.cons rfl (.nil _))))))
          · replace hc25 := iff_ hq26 hc25
            obtain rfl := inj hc25
            refine JLs rfl rfl hq26 rfl ?_
            refine JLs rfl rfl hq26 rfl ?_
            refine JLs rfl rfl hq26 rfl ?_
            refine JLp (T_pickF rfl hq26 rfl) rfl (nofun) .none ?_
            refine JL_nil ?_
            exact KJ.sub KJ_end (.cons rfl (.cons rfl (.cons rfl (.cons rfl (.cons rfl (.nil _))))))
        refine JL_nil ?_
        refine KJ_nrm_then (KJ_J ?_)
        refine J_test rfl (fun hq27 => ?_) (fun hq27 => ?_)
        · replace hb22 := ift hq27 hb22
          refine J_skip ?_
          refine KJ_nrm_then (KJ_J ?_)
          refine J_block ?_
          refine J_seq ?_
          refine J_region ?_
          refine JLa (T_alloc z28 lay_api_Message) rfl .none fun b28 => ?_
          refine JL_nil ?_
          refine KJ_nrm_then (KJ_J ?_)
          refine J_seq ?_
          replace hb22 := bnd hb22; obtain ⟨x29, hx29, hb22⟩ := hb22
          replace hb22 := bnd hb22; obtain ⟨x30, hx30, hb22⟩ := hb22
          refine J_drawR (Ks := [Ent.box b28 r_api_Message (⟨0, 0, 0, 0, 0, 0, [], []⟩ : api_Message)]) rfl (by kernel_rfl) fun K hK => ?_
          refine DR.p (.base (t := 3) rfl .nil) (T_load ty24 rfl) .none rfl rfl (nofun) ?_
          refine DR.p (.base (t := 8) rfl .nil) (T_move rfl) .none rfl rfl (nofun) ?_
          refine DR.p (.dep 1 0 rfl rfl rfl .nil) (T_ix sl43 (.mk rfl) rfl hx29) .none rfl rfl (nofun) ?_
          refine DR.p (.dep 2 0 rfl rfl rfl .nil) (T_load ty28 rfl) .none rfl rfl (nofun) ?_
          refine DR.e (.dep 0 3 rfl rfl rfl (.dep 3 0 rfl rfl rfl .nil)) (T_call ⟨_, Try.func13, rfl, rfl⟩ (c_compare_Answer hx30) ⟨(.mk rfl), ⟨(.mk rfl), trivial⟩⟩) .none rfl rfl ?_
          refine DR.p (.dep 4 0 rfl rfl rfl .nil) (T_move rfl) .none rfl rfl (nofun) ?_
          refine DR.p (.dep 5 0 rfl rfl rfl .nil) (T_extract rfl rfl) .none rfl rfl (nofun) ?_
          refine DR.p (.dep 5 1 rfl rfl rfl .nil) (T_extract rfl rfl) .none rfl rfl (nofun) ?_
          refine DR.w (κ := [Ent.box b28 r_api_Message (⟨0, 0, 0, 0, 0, 0, [], []⟩ : api_Message)]) (ε := [Ent.box b28 r_api_Message x30.1]) (.base (t := 10) rfl (.dep 6 1 rfl rfl rfl .nil)) (T_store ty28 rfl (.mk rfl) (SetF.self lay_api_Message)) .none ?_
          refine DR.tail (by kernel_rfl) (.refl _) rfl ?_
          simp only [List.reverse_cons, List.reverse_nil, List.nil_append, List.cons_append, DT]
          refine JLp (T_assign rfl) rfl (nofun) .none ?_
          refine JL_nil (KJ_hid hK ?_)
          refine KJ_nrm_then (KJ_J ?_)
          refine J_seq ?_
          refine J_region ?_
          refine JLp (T_move rfl) rfl (nofun) .none ?_
          refine JLp (T_eql rfl rfl) rfl (nofun) .none ?_
          refine JL_nil ?_
          refine KJ_nrm_then (KJ_J ?_)
          replace hb22 := bnd hb22; obtain ⟨o32, ho33, hb22⟩ := hb22
          refine J_cuto o32 (fun (s34 : List api_Message × Int × api_Walk) (g35 : Unit) => [(3, (Rep.iptr r_api_Tree).at a1), (7, Rep.ptr.at (b2, 0)), (8, (Rep.sl r_api_Message 8).at s34.1), (9, (Rep.int .i64).at s34.2.1)]) (fun s34 g35 => Ent.box b28 r_api_Message x30.1 :: Ent.box b2 r_api_Walk s34.2.2 :: R) ?_ ?_
          · refine J_test rfl (fun hq31 => ?_) (fun hq31 => ?_)
            · replace ho33 := ift hq31 ho33
              refine J_region ?_
              refine JLp (T_loadw ty41 rfl) rfl B1 .none ?_
              refine JLp (T_loadw ty28 rfl) rfl B0 .none ?_
              replace ho33 := bnd ho33; obtain ⟨x36, hx36, ho33⟩ := ho33
              refine JLe0 (T_call ⟨_, Try.func17, rfl, rfl⟩ (c_compare_Learn hx36) ⟨(.mk rfl), ⟨(.mk rfl), trivial⟩⟩) rfl .none ?_
              refine JLp (T_move rfl) rfl (nofun) .none ?_
              refine JLp (T_extract rfl rfl) rfl (nofun) .none ?_
              refine JLp (T_extract rfl rfl) rfl (nofun) .none ?_
              refine JLp (T_extract rfl rfl) rfl (nofun) .none ?_
              refine JL.perm F1 ?_
              refine JLn1 (T_store ty41 rfl (.mk rfl) (SetF.self lay_api_Walk)) .none ?_
              refine JLp (T_assign rfl) rfl (nofun) .none ?_
              refine JLp (T_assign rfl) rfl (nofun) .none ?_
              refine JL_nil ?_
              refine KJ_nrm_kq ?_
              refine KJ.perm F1 ?_
              exact KJ_ot (x36.2.1, x36.2.2, x36.1) () (inj ho33) (.cons rfl (.cons rfl (.cons rfl (.cons rfl (.nil _))))) rfl
            · replace ho33 := iff_ hq31 ho33
              refine J_skip ?_
              refine KJ_nrm_kq ?_
              exact KJ_ot (s18.1, x30.2, s18.2.2) () (inj ho33) (.cons rfl (.cons rfl (.cons rfl (.cons rfl (.nil _))))) rfl
          · intro s34 g35 hs
            subst hs
            replace hb22 := thn hb22
            refine KJ_nrm_blk ?_
            refine KJ_nrm_then ?_
            refine KJ.drop1 ?_
            exact KJ_nx (s34.1, s34.2.1, s34.2.2) () (inj hb22) (.cons rfl (.cons rfl (.cons rfl (.cons rfl (.nil _))))) rfl
        · replace hb22 := iff_ hq27 hb22
          refine J_exit ?_
          refine KJ_exit_then ?_
          refine KJ_exit_then ?_
          refine KJ_exit_here ?_
          refine KJ_nrm_kq ?_
          obtain rfl := inj hb22
          exact KJ_ot (s18.1, s18.2.1, s18.2.2) () hf23 (.cons rfl (.cons rfl (.nil _))) rfl
      · intro s18 g19 hs
        subst hs
        replace h := thn h
        refine KJ_nrm_then (KJ_J ?_)
        refine J_seq ?_
        refine J_seq ?_
        refine J_region ?_
        refine JLp (T_move rfl) rfl (nofun) .none ?_
        refine JLp (T_neq rfl rfl) rfl (nofun) .none ?_
        refine JL_nil ?_
        refine KJ_nrm_then (KJ_J ?_)
        refine J_test rfl (fun hq37 => ?_) (fun hq37 => ?_)
        · replace h := ift hq37 h
          refine J_seq ?_
          refine J_region ?_
          refine JLp (T_move rfl) rfl (nofun) .none ?_
          refine JLp (T_assign rfl) rfl (nofun) .none ?_
          refine JLp (T_assign rfl) rfl (nofun) .none ?_
          refine JLp (T_assign rfl) rfl (nofun) .none ?_
          refine JL_nil ?_
          refine KJ_nrm_then (KJ_J ?_)
          refine J_ret ?_
          refine KJ_ret_then ?_
          obtain rfl := inj h
          refine KJ.drop1 ?_
          exact KJ_retn' Try.results21 (.tmp (.nilc rfl) (.tmp (.mk rfl) (.tmp (.mk rfl) Rv.nil))) rfl (by simp) rfl
        · replace h := iff_ hq37 h
          refine J_skip ?_
          refine KJ_nrm_then (KJ_J ?_)
          refine J_seq ?_
          refine J_drawR (Ks := []) rfl (by kernel_rfl) fun K hK => ?_
          refine DR.p (.base (t := 7) rfl .nil) (T_faddr fo41_3 rfl) .none rfl rfl (nofun) ?_
          refine DR.p (.dep 0 0 rfl rfl rfl .nil) (T_loadb ty39 rfl hf_api_Walk_Found) .none rfl rfl B0 ?_
          refine DR.p (.base (t := 7) rfl .nil) (T_faddr fo41_4 rfl) .none rfl rfl (nofun) ?_
          refine DR.p (.dep 2 0 rfl rfl rfl .nil) (T_loadb ty3 rfl hf_api_Walk_Sent) .none rfl rfl B0 ?_
          refine DR.p (.dep 1 2 rfl rfl rfl .nil) (T_assign rfl) .none rfl rfl (nofun) ?_
          refine DR.tail (by kernel_rfl) (.refl _) rfl ?_
          simp only [List.reverse_cons, List.reverse_nil, List.nil_append, List.cons_append, DT]
          refine JLp (T_assign rfl) rfl (nofun) .none ?_
          refine JLp (T_assign rfl) rfl (nofun) .none ?_
          refine JL_nil (KJ_hid hK ?_)
          refine KJ_nrm_then (KJ_J ?_)
          refine J_ret ?_
          obtain rfl := inj h
          refine KJ.drop1 ?_
          exact KJ_retn' Try.results21 (.tmp (.mk rfl) (.tmp (.mk rfl) (.tmp (.mk rfl) Rv.nil))) rfl (by simp) rfl
end Go.Proofs.Ytogflgcngfghpaa
end

/- function 57 -/
section
set_option maxHeartbeats 4000000
set_option linter.unusedVariables false
set_option linter.unusedSimpArgs false
namespace Go.Proofs.Ytogflgcngfghpaa
open Go.J
def f_ref44_Begin (a0 : api_Tree) : Option (api_Walk × List api_Message × Int) :=
  (f_ref11_Check a0).bind fun x2 => if (!decide (x2 = 0)) = true then some ((⟨(⟨0, 0, []⟩ : api_Tree), [], 0, [], 0, false⟩ : api_Walk), [], x2) else (f_ref44_Request (⟨a0, [(⟨0, 1⟩ : api_Extent)], IntKind.i64.wrap ((a0.Levels.length : Int) - 1), [], 0, false⟩ : api_Walk)).bind fun x5 => some ((⟨a0, [(⟨0, 1⟩ : api_Extent)], IntKind.i64.wrap ((a0.Levels.length : Int) - 1), [], 0, false⟩ : api_Walk), [x5], 0)

theorem c_ref44_Begin {a0 : api_Tree} {r : api_Walk × List api_Message × Int} (h : f_ref44_Begin a0 = some r) : Ct Try.prog 57 [r_api_Tree.at a0] [] (fun _ : Unit => Pr.tup [r_api_Walk.at r.1, (Rep.sl r_api_Message 8).at r.2.1, (Rep.int .i64).at r.2.2]) (fun _ => []) := by
  refine Ct.mk Try.func57 rfl Try.ntmps57 (by simp) fun I R => ?_
  refine J.drop0 ?_
  unfold f_ref44_Begin at h
  refine J_seq ?_
  refine J_region ?_
  refine JLe0 (T_box (ρ := r_api_Tree) (.mk rfl)) rfl .none ?_
  refine JLa (T_alloc z41 lay_api_Walk) rfl .none fun b1 => ?_
  refine JLp (T_assign rfl) rfl (nofun) .none ?_
  refine JLp (T_assign rfl) rfl (nofun) .none ?_
  refine JL_nil ?_
  refine KJ_nrm_then (KJ_J ?_)
  refine J_seq ?_
  refine J_seq ?_
  refine J_region ?_
  refine JLp (T_load ty24 rfl) rfl (nofun) .none ?_
  replace h := bnd h; obtain ⟨x2, hx2, h⟩ := h
  refine JLe0 (T_call ⟨_, Try.func38, rfl, rfl⟩ (c_ref11_Check hx2) ⟨(.mk rfl), trivial⟩) rfl .none ?_
  refine JLp (T_assign rfl) rfl (nofun) .none ?_
  refine JL_nil ?_
  refine KJ_nrm_then (KJ_J ?_)
  refine J_seq ?_
  refine J_region ?_
  refine JLp (T_move rfl) rfl (nofun) .none ?_
  refine JLp (T_neq rfl rfl) rfl (nofun) .none ?_
  refine JL_nil ?_
  refine KJ_nrm_then (KJ_J ?_)
  refine J_test rfl (fun hq3 => ?_) (fun hq3 => ?_)
  · replace h := ift hq3 h
    refine J_seq ?_
    refine J_region ?_
    refine JLp (T_build (s' := (⟨(⟨0, 0, []⟩ : api_Tree), [], 0, [], 0, false⟩ : api_Walk)) bd41 z41 lay_api_Walk .nil) rfl (nofun) .none ?_
    refine JLp (T_move rfl) rfl (nofun) .none ?_
    refine JLn1 (T_store ty41 rfl (.mk rfl) (SetF.self lay_api_Walk)) .none ?_
    refine JLp (T_assign rfl) rfl (nofun) .none ?_
    refine JLp (T_assign rfl) rfl (nofun) .none ?_
    refine JL_nil ?_
    refine KJ_nrm_then (KJ_J ?_)
    refine J_ret ?_
    refine KJ_ret_then ?_
    obtain rfl := inj h
    exact KJ_retnc () [Ent.box b1 r_api_Walk (⟨(⟨0, 0, []⟩ : api_Tree), [], 0, [], 0, false⟩ : api_Walk)] rfl Try.results57 (.cell ty41 rfl (by simp) (.tmp (.nilc rfl) (.tmp (.mk rfl) Rv.nil))) rfl (by simp) rfl
  · replace h := iff_ hq3 h
    refine J_skip ?_
    refine KJ_nrm_then (KJ_J ?_)
    refine J_seq ?_
    refine J_region ?_
    refine JLp (T_load ty24 rfl) rfl (nofun) .none ?_
    refine JLp (T_build (s' := (⟨0, 1⟩ : api_Extent)) bd62 z62 lay_api_Extent (.cons (π := (Rep.int .i64)) (.mk rfl) rfl (Lay.int _) sf_api_Extent_Start (.cons (π := (Rep.int .i64)) (.mk rfl) rfl (Lay.int _) sf_api_Extent_Count .nil))) rfl (nofun) .none ?_
    refine JLe0 (T_bslice (ρ := r_api_Extent) sl39 lay_api_Extent (.cons (.mk rfl) .nil) rfl (by decide)) rfl .none ?_
    refine JLp (T_faddri fo24_2 rfl hf_api_Tree_Levels) rfl (nofun) .none ?_
    refine JLp (T_load ty22 rfl) rfl (nofun) .none ?_
    refine JLp (T_len (ρ := (Rep.sl (Rep.int .u64) 1)) sl22 (.mk rfl)) rfl (nofun) .none ?_
    refine JLp (T_sub rfl rfl) rfl (nofun) .none ?_
    refine JLp (T_build (s' := (⟨a0, [(⟨0, 1⟩ : api_Extent)], IntKind.i64.wrap ((a0.Levels.length : Int) - 1), [], 0, false⟩ : api_Walk)) bd41 z41 lay_api_Walk (.cons (π := r_api_Tree) (.mk rfl) rfl lay_api_Tree sf_api_Walk_Tree (.cons (π := (Rep.sl r_api_Extent 2)) (.mk rfl) rfl (Lay.sl _ _) sf_api_Walk_Pending (.cons (π := (Rep.int .i64)) (.mk rfl) rfl (Lay.int _) sf_api_Walk_Level .nil)))) rfl (nofun) .none ?_
    refine JLa (T_alloc z41 lay_api_Walk) rfl .none fun b4 => ?_
    refine JLn1 (T_store ty41 rfl (.mk rfl) (SetF.self lay_api_Walk)) .none ?_
    refine JL_nil ?_
    refine KJ_nrm_then (KJ_J ?_)
    refine J_seq ?_
    refine J.perm F1 ?_
    replace h := bnd h; obtain ⟨x5, hx5, h⟩ := h
    refine J_drawR (Ks := [Ent.box b1 r_api_Walk (⟨(⟨0, 0, []⟩ : api_Tree), [], 0, [], 0, false⟩ : api_Walk)]) rfl (by kernel_rfl) fun K hK => ?_
    refine DR.p (.base (t := 6) rfl .nil) (T_loadw ty41 rfl) .none rfl rfl B0 ?_
    refine DR.p (.base (t := 6) rfl .nil) (T_loadw ty41 rfl) .none rfl rfl B0 ?_
    refine DR.e (.dep 1 0 rfl rfl rfl .nil) (T_call ⟨_, Try.func51, rfl, rfl⟩ (c_ref44_Request hx5) ⟨(.mk rfl), trivial⟩) .none rfl rfl ?_
    refine DR.e (.dep 2 0 rfl rfl rfl .nil) (T_bslice (ρ := r_api_Message) sl43 lay_api_Message (.cons (.mk rfl) .nil) rfl (by decide)) .none rfl rfl ?_
    refine DR.w (κ := [Ent.box b1 r_api_Walk (⟨(⟨0, 0, []⟩ : api_Tree), [], 0, [], 0, false⟩ : api_Walk)]) (ε := [Ent.box b1 r_api_Walk (⟨a0, [(⟨0, 1⟩ : api_Extent)], IntKind.i64.wrap ((a0.Levels.length : Int) - 1), [], 0, false⟩ : api_Walk)]) (.base (t := 2) rfl (.dep 0 3 rfl rfl rfl .nil)) (T_store ty41 rfl (.mk rfl) (SetF.self lay_api_Walk)) .none ?_
    refine DR.tail (by kernel_rfl) (.refl _) rfl ?_
    simp only [List.reverse_cons, List.reverse_nil, List.nil_append, List.cons_append, DT]
    refine JLp (T_assign rfl) rfl (nofun) .none ?_
    refine JLp (T_assign rfl) rfl (nofun) .none ?_
    refine JL_nil (KJ_hid hK ?_)
    refine KJ_nrm_then (KJ_J ?_)
    refine J_ret ?_
    obtain rfl := inj h
    exact KJ_retnc () [Ent.box b1 r_api_Walk (⟨a0, [(⟨0, 1⟩ : api_Extent)], IntKind.i64.wrap ((a0.Levels.length : Int) - 1), [], 0, false⟩ : api_Walk), Ent.box b4 r_api_Walk (⟨a0, [(⟨0, 1⟩ : api_Extent)], IntKind.i64.wrap ((a0.Levels.length : Int) - 1), [], 0, false⟩ : api_Walk)] rfl Try.results57 (.cell ty41 rfl (by simp) (.tmp (.mk rfl) (.tmp (.mk rfl) Rv.nil))) rfl (by simp) rfl
end Go.Proofs.Ytogflgcngfghpaa
end

/- function 22 -/
section
set_option maxHeartbeats 4000000
set_option linter.unusedVariables false
set_option linter.unusedSimpArgs false
namespace Go.Proofs.Ytogflgcngfghpaa
open Go.J
def f_ref44_Run (a0 : api_Tree) (a1 : api_Tree) : Option (List api_Extent × Int × Int) :=
  (f_ref44_Begin a0).bind fun x1 => if (!decide (x1.2.2 = 0)) = true then some ([], 0, x1.2.2) else (f_ref11_Check a1).bind fun x4 => if (!decide (x4 = 0)) = true then some ([], 0, x4) else (if (!decide (a0.Size = a1.Size)) = true then some true else some (!decide (a0.Leaf = a1.Leaf))).bind fun c6 => if c6 = true then some ([], 0, 22) else (whileF (σ := List api_Message × api_Walk) (ρ := List api_Extent × Int × Int) (fun s9 => if (decide (0 < (s9.1.length : Int))) = true then (idx s9.1 0).bind fun x17 => (f_ref44_Answer a1 x17).bind fun x18 => (f_ref44_Learn s9.2 x18.1).bind fun x20 => some (Rd.next (x20.2.1, x20.1)) else some (Rd.done (s9.1, s9.2))) bigK (x1.2.1, x1.1)).bind fun o11 => o11.then fun s9 => some (s9.2.Found, s9.2.Sent, 0)

theorem c_ref44_Run {a0 : api_Tree} {a1 : api_Tree} {r : List api_Extent × Int × Int} (h : f_ref44_Run a0 a1 = some r) : Ct Try.prog 22 [r_api_Tree.at a0, r_api_Tree.at a1] [] (fun _ : Unit => Pr.tup [(Rep.sl r_api_Extent 2).at r.1, (Rep.int .i64).at r.2.1, (Rep.int .i64).at r.2.2]) (fun _ => []) := by
  refine Ct.mk Try.func22 rfl Try.ntmps22 (by simp) fun I R => ?_
  refine J.drop0 ?_
  unfold f_ref44_Run at h
  refine J_seq ?_
  refine J_region ?_
  refine JLe0 (T_box (ρ := r_api_Tree) (.mk rfl)) rfl .none ?_
  refine JLe0 (T_box (ρ := r_api_Tree) (.mk rfl)) rfl .none ?_
  refine JLp (T_assign rfl) rfl (nofun) .none ?_
  refine JLp (T_assign rfl) rfl (nofun) .none ?_
  refine JLp (T_assign rfl) rfl (nofun) .none ?_
  refine JL_nil ?_
  refine KJ_nrm_then (KJ_J ?_)
  refine J_seq ?_
  refine J_region ?_
  refine JLp (T_load ty24 rfl) rfl (nofun) .none ?_
  replace h := bnd h; obtain ⟨x1, hx1, h⟩ := h
  refine JLe0 (T_call ⟨_, Try.func57, rfl, rfl⟩ (c_ref44_Begin hx1) ⟨(.mk rfl), trivial⟩) rfl .none ?_
  refine JLp (T_move rfl) rfl (nofun) .none ?_
  refine JLp (T_extract rfl rfl) rfl (nofun) .none ?_
  refine JLp (T_extract rfl rfl) rfl (nofun) .none ?_
  refine JLp (T_extract rfl rfl) rfl (nofun) .none ?_
  refine JLa (T_alloc z41 lay_api_Walk) rfl .none fun b2 => ?_
  refine JLn1 (T_store ty41 rfl (.mk rfl) (SetF.self lay_api_Walk)) .none ?_
  refine JLp (T_assign rfl) rfl (nofun) .none ?_
  refine JLp (T_assign rfl) rfl (nofun) .none ?_
  refine JL_nil ?_
  refine KJ_nrm_then (KJ_J ?_)
  refine J_seq ?_
  refine J_seq ?_
  refine J_region ?_
  refine JLp (T_move rfl) rfl (nofun) .none ?_
  refine JLp (T_neq rfl rfl) rfl (nofun) .none ?_
  refine JL_nil ?_
  refine KJ_nrm_then (KJ_J ?_)
  refine J_test rfl (fun hq3 => ?_) (fun hq3 => ?_)
  · replace h := ift hq3 h
    refine J_seq ?_
    refine J_region ?_
    refine JLp (T_move rfl) rfl (nofun) .none ?_
    refine JLp (T_assign rfl) rfl (nofun) .none ?_
    refine JLp (T_assign rfl) rfl (nofun) .none ?_
    refine JLp (T_assign rfl) rfl (nofun) .none ?_
    refine JL_nil ?_
    refine KJ_nrm_then (KJ_J ?_)
    refine J_ret ?_
    refine KJ_ret_then ?_
    obtain rfl := inj h
    refine KJ.drop1 ?_
    exact KJ_retn' Try.results22 (.tmp (.nilc rfl) (.tmp (.mk rfl) (.tmp (.mk rfl) Rv.nil))) rfl (by simp) rfl
  · replace h := iff_ hq3 h
    refine J_skip ?_
    refine KJ_nrm_then (KJ_J ?_)
    refine J_seq ?_
    refine J_seq ?_
    refine J_region ?_
    refine JLp (T_load ty24 rfl) rfl (nofun) .none ?_
    replace h := bnd h; obtain ⟨x4, hx4, h⟩ := h
    refine JLe0 (T_call ⟨_, Try.func38, rfl, rfl⟩ (c_ref11_Check hx4) ⟨(.mk rfl), trivial⟩) rfl .none ?_
    refine JLp (T_assign rfl) rfl (nofun) .none ?_
    refine JL_nil ?_
    refine KJ_nrm_then (KJ_J ?_)
    refine J_seq ?_
    refine J_region ?_
    refine JLp (T_move rfl) rfl (nofun) .none ?_
    refine JLp (T_neq rfl rfl) rfl (nofun) .none ?_
    refine JL_nil ?_
    refine KJ_nrm_then (KJ_J ?_)
    refine J_test rfl (fun hq5 => ?_) (fun hq5 => ?_)
    · replace h := ift hq5 h
      refine J_seq ?_
      refine J_region ?_
      refine JLp (T_move rfl) rfl (nofun) .none ?_
      refine JLp (T_assign rfl) rfl (nofun) .none ?_
      refine JLp (T_assign rfl) rfl (nofun) .none ?_
      refine JLp (T_assign rfl) rfl (nofun) .none ?_
      refine JL_nil ?_
      refine KJ_nrm_then (KJ_J ?_)
      refine J_ret ?_
      refine KJ_ret_then ?_
      obtain rfl := inj h
      refine KJ.drop1 ?_
      exact KJ_retn' Try.results22 (.tmp (.nilc rfl) (.tmp (.mk rfl) (.tmp (.mk rfl) Rv.nil))) rfl (by simp) rfl
    · replace h := iff_ hq5 h
      refine J_skip ?_
      refine KJ_nrm_then (KJ_J ?_)
      refine J_seq ?_
      refine J_seq ?_
      refine J_region ?_
      refine JLp (T_faddri fo24_0 rfl hf_api_Tree_Size) rfl (nofun) .none ?_
      refine JLp (T_load ty3 rfl) rfl (nofun) .none ?_
      refine JLp (T_faddri fo24_0 rfl hf_api_Tree_Size) rfl (nofun) .none ?_
      refine JLp (T_load ty3 rfl) rfl (nofun) .none ?_
      refine JLp (T_neq rfl rfl) rfl (nofun) .none ?_
      refine JLp (T_move rfl) rfl (nofun) .none ?_
      replace h := bnd h; obtain ⟨c6, hc6, h⟩ := h
      refine JL_at 6 [(3, (Rep.iptr r_api_Tree).at a1), (7, Rep.ptr.at (b2, 0)), (8, (Rep.sl r_api_Message 8).at x1.2.1), (38, Rep.bool.at c6)] (Ent.box b2 r_api_Walk x1.1 :: R) ?_ ?_
      · rcases Bool.eq_false_or_eq_true (!decide (a0.Size = a1.Size)) with hq7 | hq7
        · replace hc6 := ift hq7 hc6
          obtain rfl := inj hc6
          refine JLs rfl rfl hq7 rfl ?_
          refine JLs rfl rfl hq7 rfl ?_
          refine JLs rfl rfl hq7 rfl ?_
          refine JLs rfl rfl hq7 rfl ?_
          refine JLs rfl rfl hq7 rfl ?_
          refine JLp (T_pickT rfl hq7 rfl) rfl (nofun) .none ?_
          refine JL_nil ?_
          exact KJ.sub KJ_end (.cons rfl (.cons rfl (.cons rfl (.cons rfl (.nil _)))))
        · replace hc6 := iff_ hq7 hc6
          refine JLp (T_faddri fo24_1 rfl hf_api_Tree_Leaf) rfl (nofun) (.y rfl rfl hq7) ?_
          refine JLp (T_load ty3 rfl) rfl (nofun) (.y rfl rfl hq7) ?_
          refine JLp (T_faddri fo24_1 rfl hf_api_Tree_Leaf) rfl (nofun) (.y rfl rfl hq7) ?_
          refine JLp (T_load ty3 rfl) rfl (nofun) (.y rfl rfl hq7) ?_
          refine JLp (T_neq rfl rfl) rfl (nofun) (.y rfl rfl hq7) ?_
          obtain rfl := inj hc6
          refine JLp (T_pickF rfl hq7 rfl) rfl (nofun) .none ?_
          refine JL_nil ?_
          exact KJ.sub KJ_end (.cons rfl (.cons rfl (.cons rfl (.cons rfl (.nil _)))))
      refine JL_nil ?_
      refine KJ_nrm_then (KJ_J ?_)
      refine J_test rfl (fun hq8 => ?_) (fun hq8 => ?_)
      · replace h := ift hq8 h
        refine J_seq ?_
        refine J_region ?_
        refine JLp (T_assign rfl) rfl (nofun) .none ?_
        refine JLp (T_assign rfl) rfl (nofun) .none ?_
        refine JLp (T_assign rfl) rfl (nofun) .none ?_
        refine JL_nil ?_
        refine KJ_nrm_then (KJ_J ?_)
        refine J_ret ?_
        refine KJ_ret_then ?_
        obtain rfl := inj h
        refine KJ.drop1 ?_
        exact KJ_retn' Try.results22 (.tmp (.nilc rfl) (.tmp (.mk rfl) (.tmp (.mk rfl) Rv.nil))) rfl (by simp) rfl
      · replace h := iff_ hq8 h
        refine J_skip ?_
        refine KJ_nrm_then (KJ_J ?_)
        refine J_seq ?_
        replace h := bnd h; obtain ⟨o11, ho12, h⟩ := h
        refine J_cuto o11 (fun (s9 : List api_Message × api_Walk) (g10 : Unit) => [(7, Rep.ptr.at (b2, 0))]) (fun s9 g10 => Ent.box b2 r_api_Walk s9.2 :: R) ?_ ?_
        · refine J_block ?_
          refine J_while ho12 (fun (s9 : List api_Message × api_Walk) (g10 : Unit) => [(3, (Rep.iptr r_api_Tree).at a1), (7, Rep.ptr.at (b2, 0)), (8, (Rep.sl r_api_Message 8).at s9.1)]) (fun s9 g10 => Ent.box b2 r_api_Walk s9.2 :: R) () (.cons rfl (.cons rfl (.cons rfl (.nil _)))) rfl ?_
          intro s9 g10 st15 hb13 hf14
          refine J_seq ?_
          refine J_seq ?_
          refine J_region ?_
          refine JLp (T_move rfl) rfl (nofun) .none ?_
          refine JLp (T_len (ρ := r_api_Message) sl43 (.mk rfl)) rfl (nofun) .none ?_
          refine JLp (T_gtr rfl rfl) rfl (nofun) .none ?_
          refine JL_nil ?_
          refine KJ_nrm_then (KJ_J ?_)
          refine J_test rfl (fun hq16 => ?_) (fun hq16 => ?_)
          · replace hb13 := ift hq16 hb13
            refine J_skip ?_
            refine KJ_nrm_then (KJ_J ?_)
            refine J_block ?_
            refine J_seq ?_
            replace hb13 := bnd hb13; obtain ⟨x17, hx17, hb13⟩ := hb13
            replace hb13 := bnd hb13; obtain ⟨x18, hx18, hb13⟩ := hb13
            refine J_drawR (Ks := []) rfl (by kernel_rfl) fun K hK => ?_
            refine DR.p (.base (t := 3) rfl .nil) (T_load ty24 rfl) .none rfl rfl (nofun) ?_
            refine DR.p (.base (t := 8) rfl .nil) (T_move rfl) .none rfl rfl (nofun) ?_
            refine DR.p (.dep 1 0 rfl rfl rfl .nil) (T_ix sl43 (.mk rfl) rfl hx17) .none rfl rfl (nofun) ?_
            refine DR.p (.dep 2 0 rfl rfl rfl .nil) (T_load ty28 rfl) .none rfl rfl (nofun) ?_
            refine DR.e (.dep 0 3 rfl rfl rfl (.dep 3 0 rfl rfl rfl .nil)) (T_call ⟨_, Try.func14, rfl, rfl⟩ (c_ref44_Answer hx18) ⟨(.mk rfl), ⟨(.mk rfl), trivial⟩⟩) .none rfl rfl ?_
            refine DR.p (.dep 4 0 rfl rfl rfl .nil) (T_move rfl) .none rfl rfl (nofun) ?_
            refine DR.p (.dep 5 0 rfl rfl rfl .nil) (T_extract rfl rfl) .none rfl rfl (nofun) ?_
            refine DR.p (.dep 5 1 rfl rfl rfl .nil) (T_extract rfl rfl) .none rfl rfl (nofun) ?_
            refine DR.k (ε := (fun b19 : Nat => [Ent.box b19 r_api_Message (⟨0, 0, 0, 0, 0, 0, [], []⟩ : api_Message)])) 9 (fun b19 : Nat => [Ent.box b19 r_api_Message x18.1]) .nil (T_alloc z28 lay_api_Message) .none rfl rfl ?_
            refine DR.z (ε := (fun b19 : Nat => [Ent.box b19 r_api_Message (⟨0, 0, 0, 0, 0, 0, [], []⟩ : api_Message)])) (ε' := (fun b19 : Nat => [Ent.box b19 r_api_Message x18.1])) 8 0 (.dep 6 2 rfl rfl rfl .nil) rfl rfl rfl (fun b19 => (T_store ty28 rfl (.mk rfl) (SetF.self lay_api_Message))) (fun _ => .none) ?_
            refine DR.tail (by kernel_rfl) (.refl _) rfl ?_
            simp only [List.reverse_cons, List.reverse_nil, List.nil_append, List.cons_append, DT]
            intro wb19
            obtain ⟨b19, hwb19⟩ : ∃ b, blkOf wb19 = b := ⟨_, rfl⟩
            rw [hwb19]
            refine JLp (T_assign rfl) rfl (nofun) .none ?_
            refine JL_nil (KJ_hid hK ?_)
            refine KJ_nrm_then (KJ_J ?_)
            refine J_region ?_
            refine JLp (T_loadw ty41 rfl) rfl B1 .none ?_
            refine JLp (T_loadw ty28 rfl) rfl B0 .none ?_
            replace hb13 := bnd hb13; obtain ⟨x20, hx20, hb13⟩ := hb13
            refine JLe0 (T_call ⟨_, Try.func18, rfl, rfl⟩ (c_ref44_Learn hx20) ⟨(.mk rfl), ⟨(.mk rfl), trivial⟩⟩) rfl .none ?_
            refine JLp (T_move rfl) rfl (nofun) .none ?_
            refine JLp (T_extract rfl rfl) rfl (nofun) .none ?_
            refine JLp (T_extract rfl rfl) rfl (nofun) .none ?_
            refine JLp (T_extract rfl rfl) rfl (nofun) .none ?_
            refine JL.perm F1 ?_
            refine JLn1 (T_store ty41 rfl (.mk rfl) (SetF.self lay_api_Walk)) .none ?_
            refine JLp (T_assign rfl) rfl (nofun) .none ?_
            refine JL_nil ?_
            refine KJ_nrm_blk ?_
            refine KJ_nrm_then ?_
            refine KJ.perm F1 ?_
            refine KJ.drop1 ?_
            exact KJ_nx (x20.2.1, x20.1) () (inj hb13) (.cons rfl (.cons rfl (.cons rfl (.nil _)))) rfl
          · replace hb13 := iff_ hq16 hb13
            refine J_exit ?_
            refine KJ_exit_then ?_
            refine KJ_exit_then ?_
            refine KJ_exit_here ?_
            refine KJ_nrm_kq ?_
            obtain rfl := inj hb13
            exact KJ_ot (s9.1, s9.2) () hf14 (.cons rfl (.nil _)) rfl
        · intro s9 g10 hs
          subst hs
          replace h := thn h
          refine KJ_nrm_then (KJ_J ?_)
          refine J_seq ?_
          refine J_drawR (Ks := []) rfl (by kernel_rfl) fun K hK => ?_
          refine DR.p (.base (t := 7) rfl .nil) (T_faddr fo41_3 rfl) .none rfl rfl (nofun) ?_
          refine DR.p (.dep 0 0 rfl rfl rfl .nil) (T_loadb ty39 rfl hf_api_Walk_Found) .none rfl rfl B0 ?_
          refine DR.p (.base (t := 7) rfl .nil) (T_faddr fo41_4 rfl) .none rfl rfl (nofun) ?_
          refine DR.p (.dep 2 0 rfl rfl rfl .nil) (T_loadb ty3 rfl hf_api_Walk_Sent) .none rfl rfl B0 ?_
          refine DR.p (.dep 1 2 rfl rfl rfl .nil) (T_assign rfl) .none rfl rfl (nofun) ?_
          refine DR.tail (by kernel_rfl) (.refl _) rfl ?_
          simp only [List.reverse_cons, List.reverse_nil, List.nil_append, List.cons_append, DT]
          refine JLp (T_assign rfl) rfl (nofun) .none ?_
          refine JLp (T_assign rfl) rfl (nofun) .none ?_
          refine JL_nil (KJ_hid hK ?_)
          refine KJ_nrm_then (KJ_J ?_)
          refine J_ret ?_
          obtain rfl := inj h
          refine KJ.drop1 ?_
          exact KJ_retn' Try.results22 (.tmp (.mk rfl) (.tmp (.mk rfl) (.tmp (.mk rfl) Rv.nil))) rfl (by simp) rfl
end Go.Proofs.Ytogflgcngfghpaa
end

/- A whole run: the program and the reference find the same extents, with as many digests sent. -/
section
set_option maxHeartbeats 1000000
set_option linter.unusedVariables false
set_option linter.unusedSimpArgs false
namespace Go.Proofs.Ytogflgcngfghpaa
open Go.J

theorem Open.check {w : api_Walk} (h : Open w) : wchkS w = 0 := by
  unfold wchkS
  have h1 : rngS w = false := by
    unfold rngS
    have a := h.lv
    have b := h.sent
    rw [h.done]
    simp; omega
  have h2 : formS w = true := by
    unfold formS
    have hl := h.len
    have hp : w.Pending.length ≠ 0 := fun e => h.pend (List.length_eq_zero_iff.1 e)
    have hc := check_of_sep h.sep (size := ((levelS w).length : Int)) (by omega) (by omega) (ends_of_nodes h.sep h.nodes)
    rw [h.done, h.found, hc]
    simp
    exact h.pend
  rw [if_pos h.good, if_neg (by simp [h1]), if_pos h2]

theorem flat2 : ∀ (l : List api_Extent) (k : Nat) (hk : k < l.length), (l.flatMap fun e => [e.Start, e.Count]).getD (2 * k) 0 = l[k].Start ∧ (l.flatMap fun e => [e.Start, e.Count]).getD (2 * k + 1) 0 = l[k].Count
  | e :: l, 0, _ => by simp
  | e :: l, k + 1, hk => by
    have := flat2 l k (by simpa using hk)
    have e1 : 2 * (k + 1) = 2 * k + 1 + 1 := by omega
    rw [e1]
    simpa [List.flatMap_cons] using this
theorem pairs_values (w : api_Walk) : pairsS (valuesS w) = w.Pending := by
  have hlen := values_len w
  refine List.ext_getElem (by rw [pairs_len]; omega) fun k h1 h2 => ?_
  have := flat2 w.Pending k h2
  simp only [pairsS, List.getElem_map, List.getElem_range]
  have e1 : (valuesS w).getD (2 + 2 * k) 0 = w.Pending[k].Start := by
    rw [← this.1]
    unfold valuesS
    rw [List.getD_eq_getElem?_getD, List.getElem?_append_right (by simp <;> omega), ← List.getD_eq_getElem?_getD]
    congr 1
    simp
  have e2 : (valuesS w).getD (3 + 2 * k) 0 = w.Pending[k].Count := by
    rw [← this.2]
    unfold valuesS
    rw [List.getD_eq_getElem?_getD, List.getElem?_append_right (by simp <;> omega), ← List.getD_eq_getElem?_getD]
    congr 1
    simp; omega
  rw [e1, e2]

/-- The answer to an open walk's request out of another tree of the same shape. -/
def bodyS (t2 : api_Tree) (w : api_Walk) : List Int := (nodesS w.Pending).flatMap fun n => bytesS ((t2.Levels.getD w.Level.toNat []).getD n.toNat 0)
def ansM (t2 : api_Tree) (w : api_Walk) : api_Message := ⟨14, 0, 0, w.Level, 0, 0, valuesS w, bodyS t2 w⟩
structure Twin (t1 t2 : api_Tree) : Prop where
  g1 : checkS t1 = 0
  g2 : checkS t2 = 0
  s : t1.Size = t2.Size
  l : t1.Leaf = t2.Leaf
theorem Twin.shape {t1 t2 : api_Tree} (h : Twin t1 t2) : t1.Levels.length = t2.Levels.length ∧ ∀ i, lvLen t1 i = lvLen t2 i := by
  obtain ⟨_, _, _, _, s1, _⟩ := good_levels h.g1
  obtain ⟨_, _, _, _, s2, _⟩ := good_levels h.g2
  rw [← h.s, ← h.l] at s2
  exact shp_same _ _ _ s1 s2
theorem ans_run {t2 : api_Tree} {w : api_Walk} (h : Open w) (ht : Twin w.Tree t2) : ansS t2 (requestS w) = (ansM t2 w, 0) := by
  obtain ⟨e1, e2⟩ := ht.shape
  have hl := h.lv
  have hlen := values_len w
  unfold ansS
  have hv0 : (requestS w).Values.getD 0 0 = w.Tree.Size := rfl
  have hv1 : (requestS w).Values.getD 1 0 = w.Tree.Leaf := rfl
  have hp : pairsS (requestS w).Values = w.Pending := pairs_values w
  have hlv : (t2.Levels.getD (requestS w).Number.toNat []).length = (levelS w).length := (e2 w.Level.toNat).symm
  have hc : checkE (pairsS (requestS w).Values) ((t2.Levels.getD (requestS w).Number.toNat []).length : Int) = 0 := by
    rw [hp, hlv]
    have := h.len
    exact check_of_sep h.sep (by omega) (by omega) (ends_of_nodes h.sep h.nodes)
  rw [if_neg (by simp [ht.g2]), if_neg (by simp [requestS]), if_neg (by show ¬ ((valuesS w).length < 2 ∨ (valuesS w).length % 2 = 1); omega), if_neg (by rw [hv0, hv1]; simp [ht.s, ht.l]), if_neg (by show ¬ (w.Level < 0 ∨ (t2.Levels.length : Int) ≤ w.Level); omega), if_neg (fun h' => h' hc), hp]
  rfl
theorem learn_run {t2 : api_Tree} {w : api_Walk} (h : Open w) : learnS w (ansM t2 w) = moveS w (stepD w (ansM t2 w)) := by
  unfold learnS
  have hb : (ansM t2 w).Body.length = 8 * (nodesS w.Pending).length := flat8 _ (fun n => bytes_len _) _
  rw [if_neg (by simp [h.check]), if_neg (by simp [h.done]), if_neg (by simp [ansM]), if_neg (by simp [ansM]), if_neg (by rw [hb]; simp)]

/-- What holds of every walk of a run. -/
structure RI (t1 : api_Tree) (w : api_Walk) : Prop where
  tree : w.Tree = t1
  op : Open w
  few : w.Level ≤ 12
  sum : w.Sent + 1 ≤ 2 ^ (12 - w.Level.toNat)
theorem lv_bound {t : api_Tree} (h : checkS t = 0) {i : Nat} (hi : i < t.Levels.length) : i ≤ 12 ∧ lvLen t i ≤ 2 ^ (12 - i) := by
  obtain ⟨g1, g2, g3, g4, s1, _⟩ := good_levels h
  have hb := leaves_bd g1 g2 g3 g4
  exact shp_lv _ _ 12 s1 (by have : (2 : Nat) ^ 12 = 4096 := by decide
                             omega) i hi
theorem RI.down {t1 : api_Tree} {w : api_Walk} (h : RI t1 w) {m : api_Message} (h0 : w.Level ≠ 0) (hd : stepD w m ≠ []) : RI t1 (downS w (stepD w m)) := by
  have ho := h.op
  obtain ⟨r1, r2, r3⟩ := ho.rise m
  have hl := ho.lv
  have hll := ho.len
  have hbl := ho.below h0
  obtain ⟨g1, g2, g3, g4, s1, g6, g7⟩ := good_levels ho.good
  have hhalf := (shp_half _ _ s1 (w.Level - 1).toNat (by omega)).1
  rw [show (w.Level - 1).toNat + 1 = w.Level.toNat by omega] at hhalf
  have hhalf : (levelS w).length = ((w.Tree.Levels.getD (w.Level - 1).toNat []).length + 1) / 2 := hhalf
  have hsep := below_sep ho m h0
  have hpn : nodesS (downS w (stepD w m)).Pending = belowS (w.Tree.Levels.getD (w.Level - 1).toNat []).length (stepD w m) :=
    foldX_nodes (below_rising r1) (below_bd hbl.2 fun n hn => by have := r2 n hn; omega)
  have hlvb := lv_bound ho.good hl.2
  have hnl : (nodesS w.Pending).length ≤ (levelS w).length := by
    have := rising_len (lo := 0) (hi := ((levelS w).length : Int)) (nodes_rising ho.sep) (fun n hn => by have := ho.nodes n hn; omega) (by omega)
    omega
  have hlvb2 : (levelS w).length ≤ 2 ^ (12 - w.Level.toNat) := hlvb.2
  have hpow : (2 : Nat) ^ (12 - (w.Level - 1).toNat) = 2 * 2 ^ (12 - w.Level.toNat) := by
    rw [show 12 - (w.Level - 1).toNat = (12 - w.Level.toNat) + 1 by omega, Nat.pow_succ, Nat.mul_comm]
  have hsum : sentD w + 1 ≤ ((2 ^ (12 - (w.Level - 1).toNat) : Nat) : Int) := by
    have h1 := h.sum
    have h2 : (2 : Int) ^ (12 - w.Level.toNat) = ((2 ^ (12 - w.Level.toNat) : Nat) : Int) := by simp
    rw [h2] at h1
    rw [hpow]
    unfold sentD
    omega
  have hp12 : (2 : Nat) ^ (12 - (w.Level - 1).toNat) ≤ 2 ^ 12 := Nat.pow_le_pow_right (by omega) (by omega)
  have h12 : (2 : Nat) ^ 12 = 4096 := by decide
  refine ⟨h.tree, ⟨ho.good, ⟨by show 0 ≤ w.Level - 1; omega, hbl.1⟩, by have := ho.lb; show w.Level - 1 ≤ 5000; omega, ⟨by have := ho.sent; show 0 ≤ sentD w; unfold sentD; omega, by show sentD w ≤ 8192; omega⟩, rfl, rfl, ?_, hsep, ?_, hbl.2⟩, by have := h.few; show w.Level - 1 ≤ 12; omega, by
    show sentD w + 1 ≤ 2 ^ (12 - (w.Level - 1).toNat)
    have h2 : (2 : Int) ^ (12 - (w.Level - 1).toNat) = ((2 ^ (12 - (w.Level - 1).toNat) : Nat) : Int) := by simp
    rw [h2]; exact hsum⟩
  · intro e
    have : nodesS (downS w (stepD w m)).Pending = [] := by rw [e]; rfl
    rw [hpn] at this
    cases hs : stepD w m with
    | nil => exact hd hs
    | cons n d =>
      have h1 := r2 n (by rw [hs]; simp)
      have : 2 * n ∈ belowS (w.Tree.Levels.getD (w.Level - 1).toNat []).length (stepD w m) := below_mem.2 ⟨by omega, n, by rw [hs]; simp, .inl rfl⟩
      rw [‹belowS _ _ = []›] at this
      simp at this
  · intro n hn
    rw [hpn] at hn
    obtain ⟨h1, k, hk, h2⟩ := below_mem.1 hn
    have := r2 k hk
    refine ⟨by omega, ?_⟩
    show n.toNat < (w.Tree.Levels.getD (w.Level - 1).toNat []).length
    omega

def firstW (t : api_Tree) : api_Walk := ⟨t, [⟨0, 1⟩], (t.Levels.length : Int) - 1, [], 0, false⟩
def beginS (t : api_Tree) : api_Walk × List api_Message × Int := if checkS t ≠ 0 then (w0, [], checkS t) else (firstW t, [requestS (firstW t)], 0)
theorem begin_eq {t : api_Tree} (hL : t.Levels.length ≤ 1000000) : f_compare_Begin t = some (beginS t) := by
  unfold f_compare_Begin beginS
  rw [hcheck_eq hL]
  simp only [Option.bind_some]
  by_cases h : checkS t = 0
  · obtain ⟨_, _, _, _, s1, g6, g7⟩ := good_levels h
    rw [if_neg (show ¬ ((!decide (checkS t = 0)) = true) by simp [h]), if_neg (show ¬ (checkS t ≠ 0) by simp [h]), copied_eq (by omega) (fun l hl => by have := g7 l hl; omega)]
    simp only [Option.bind_some]
    rw [w64 (n := (t.Levels.length : Int) - 1) (by omega) (by omega)]
    rw [show (⟨t, [(⟨0, 1⟩ : api_Extent)], (t.Levels.length : Int) - 1, [], 0, false⟩ : api_Walk) = firstW t from rfl, request_eq (by simp [firstW])]
    rfl
  · rw [if_pos (show ((!decide (checkS t = 0)) = true) by simp [h]), if_pos (show (checkS t ≠ 0) from h)]; rfl
theorem refBegin_eq {t : api_Tree} (hL : t.Levels.length ≤ 1000000) : f_ref44_Begin t = some (beginS t) := by
  unfold f_ref44_Begin beginS
  rw [rcheck_eq hL]
  simp only [Option.bind_some]
  by_cases h : checkS t = 0
  · obtain ⟨_, _, _, _, s1, g6, g7⟩ := good_levels h
    rw [if_neg (show ¬ ((!decide (checkS t = 0)) = true) by simp [h]), if_neg (show ¬ (checkS t ≠ 0) by simp [h])]
    rw [w64 (n := (t.Levels.length : Int) - 1) (by omega) (by omega)]
    rw [show (⟨t, [(⟨0, 1⟩ : api_Extent)], (t.Levels.length : Int) - 1, [], 0, false⟩ : api_Walk) = firstW t from rfl, refRequest_eq (by simp [firstW])]
    rfl
  · rw [if_pos (show ((!decide (checkS t = 0)) = true) by simp [h]), if_pos (show (checkS t ≠ 0) from h)]; rfl
theorem RI.first {t : api_Tree} (h : checkS t = 0) : RI t (firstW t) := by
  obtain ⟨_, _, _, _, s1, g6, g7⟩ := good_levels h
  obtain ⟨t1, t2⟩ := shp_top _ _ s1
  have h12 := lv_bound h (i := t.Levels.length - 1) (by omega)
  have e : ((t.Levels.length : Int) - 1).toNat = t.Levels.length - 1 := by omega
  have hlv : levelS (firstW t) = t.Levels.getD (t.Levels.length - 1) [] := by
    unfold levelS firstW; simp only; rw [e]
  refine ⟨rfl, ⟨h, ⟨by show 0 ≤ (t.Levels.length : Int) - 1; omega, by show ((t.Levels.length : Int) - 1).toNat < t.Levels.length; omega⟩, by show (t.Levels.length : Int) - 1 ≤ 5000; omega, ⟨by simp [firstW], by simp [firstW]⟩, rfl, rfl, by simp [firstW], ⟨fun e he => ?_, by simp [firstW]⟩, fun n hn => ?_, by rw [hlv, t2]; omega⟩, by show (t.Levels.length : Int) - 1 ≤ 12; omega, ?_⟩
  · simp [firstW] at he; subst he; simp
  · rw [hlv, t2]
    simp [firstW, nodesS, nodesE] at hn
    subst hn; simp
  · show (0 : Int) + 1 ≤ 2 ^ (12 - ((t.Levels.length : Int) - 1).toNat)
    have h2 : (2 : Int) ^ (12 - ((t.Levels.length : Int) - 1).toNat) = ((2 ^ (12 - ((t.Levels.length : Int) - 1).toNat) : Nat) : Int) := by simp
    rw [h2]
    have : 0 < (2 : Nat) ^ (12 - ((t.Levels.length : Int) - 1).toNat) := Nat.pow_pos (by omega)
    omega

/-! ### The run -/
/-- The nodes of the walk's level that differ. -/
def dOf (t2 : api_Tree) (w : api_Walk) : List Int := stepD w (ansM t2 w)
def runW (t2 : api_Tree) : Nat → api_Walk → api_Walk
  | 0, w => (moveS w (dOf t2 w)).1
  | k + 1, w => if dOf t2 w = [] then (moveS w (dOf t2 w)).1 else runW t2 k (downS w (dOf t2 w))
def runS (t1 t2 : api_Tree) : List api_Extent × Int × Int :=
  if checkS t1 ≠ 0 then ([], 0, checkS t1) else if checkS t2 ≠ 0 then ([], 0, checkS t2) else if t1.Size ≠ t2.Size ∨ t1.Leaf ≠ t2.Leaf then ([], 0, 22) else
  ((runW t2 (t1.Levels.length - 1) (firstW t1)).Found, (runW t2 (t1.Levels.length - 1) (firstW t1)).Sent, 0)

theorem wok {t1 : api_Tree} {w : api_Walk} (h : RI t1 w) (hu : ∀ l ∈ t1.Levels, ∀ x ∈ l, U64 x) : WOK w := by
  obtain ⟨_, _, _, _, s1, g6, g7⟩ := good_levels h.op.good
  have := sep_short h.op.sep
  exact ⟨by omega, fun e he => EI_of_inside h.op.sep.1 e he, fun e he => by rw [h.op.found] at he; simp at he, by omega, by rw [h.op.found]; simp, by rw [h.tree]; exact hu⟩
theorem values_I64 {t1 : api_Tree} {w : api_Walk} (h : RI t1 w) : ∀ x ∈ (requestS w).Values, I64 x := by
  obtain ⟨g1, g2, g3, g4, _⟩ := good_levels h.op.good
  intro x hx
  have hx : x ∈ valuesS w := hx
  unfold valuesS at hx
  unfold I64
  rcases List.mem_append.1 hx with hx | hx
  · simp at hx; omega
  · obtain ⟨e, he, hx⟩ := List.mem_flatMap.1 hx
    have := h.op.sep.1 e he
    simp at hx; omega

variable {t1 t2 : api_Tree}
theorem prog_step (ht : Twin t1 t2) {w : api_Walk} (h : RI t1 w) (hu : ∀ l ∈ t1.Levels, ∀ x ∈ l, U64 x) (hv : (valuesS w).length ≤ 1000) :
    f_compare_Answer t2 (requestS w) = some (ansM t2 w, 0) ∧ f_compare_Learn w (ansM t2 w) = some (moveS w (dOf t2 w)) ∧ f_ref44_Answer t2 (requestS w) = some (ansM t2 w, 0) ∧ f_ref44_Learn w (ansM t2 w) = some (moveS w (dOf t2 w)) := by
  have ht' : Twin w.Tree t2 := by rw [h.tree]; exact ht
  obtain ⟨_, _, _, _, _, g6, g7⟩ := good_levels ht.g2
  have ha := ans_run h.op ht'
  have hl := learn_run (t2 := t2) h.op
  have hb : ∀ x ∈ (ansM t2 w).Body, U8 x := fun x hx => by
    obtain ⟨n, hn, hx⟩ := List.mem_flatMap.1 hx
    exact bytes_U8 _ x hx
  refine ⟨?_, ?_, ?_, ?_⟩
  · rw [answer_eq (by omega) hv (values_I64 h), ha]
  · rw [learn_eq (wok h hu) (by show (valuesS w).length ≤ lim; simp only [lim]; omega) hb, hl]; rfl
  · rw [refAnswer_eq (by omega) hv (values_I64 h), ha]
  · rw [refLearn_eq (wok h hu) (by show (valuesS w).length ≤ lim; simp only [lim]; omega) hb, hl]; rfl
theorem len_le_nodes : ∀ {l : List api_Extent}, Inside l → l.length ≤ (nodesS l).length
  | [], _ => by simp
  | e :: l, h => by
    have := len_le_nodes (l := l) fun x hx => h x (by simp [hx])
    have he := h e (by simp)
    rw [show nodesS (e :: l) = nodesE e ++ nodesS l by simp [nodesS], List.length_append, List.length_cons]
    have : (nodesE e).length = e.Count.toNat := by simp [nodesE]
    omega
theorem values_few {t1 : api_Tree} {w : api_Walk} (h : RI t1 w) (hf : ∀ l ∈ t1.Levels, l.length ≤ 100) : (valuesS w).length ≤ 1000 := by
  have h1 := len_le_nodes h.op.sep.1
  have h2 := rising_len (lo := 0) (hi := ((levelS w).length : Int)) (nodes_rising h.op.sep) (fun n hn => by have := h.op.nodes n hn; omega) (by omega)
  have h3 : (levelS w).length ≤ 100 := by
    unfold levelS
    rw [List.getD_eq_getElem?_getD, List.getElem?_eq_getElem h.op.lv.2]
    have hf' : ∀ l ∈ w.Tree.Levels, l.length ≤ 100 := by rw [h.tree]; exact hf
    exact hf' _ (List.getElem_mem _)
  rw [values_len]; omega

theorem prog_loop (ht : Twin t1 t2) (hu : ∀ l ∈ t1.Levels, ∀ x ∈ l, U64 x) (hf : ∀ l ∈ t1.Levels, l.length ≤ 100) : ∀ (k : Nat) (w : api_Walk) (K : Nat), RI t1 w → w.Level = (k : Int) → k + 2 ≤ K →
    whileF (σ := List api_Message × Int × api_Walk) (ρ := List api_Extent × Int × Int) (fun s18 => (if (decide (s18.2.1 = 0)) = true then some (decide (0 < (s18.1.length : Int))) else some false).bind fun c25 => if c25 = true then (idx s18.1 0).bind fun x29 => (f_compare_Answer t2 x29).bind fun x30 => ((if (decide (x30.2 = 0)) = true then (f_compare_Learn s18.2.2 x30.1).bind fun x36 => some (Fl.go (x36.2.1, x36.2.2, x36.1)) else some (Fl.go (s18.1, x30.2, s18.2.2)) : Option (Fl (List api_Message × Int × api_Walk) (Rd (List api_Message × Int × api_Walk) (List api_Extent × Int × Int))))).bind fun o32 => o32.then fun s34 => some (Rd.next (s34.1, s34.2.1, s34.2.2)) else some (Rd.done (s18.1, s18.2.1, s18.2.2))) K ([requestS w], 0, w) = some (.go ([], 0, runW t2 k w))
  | k, w, K + 2, h, hk, hK => by
    obtain ⟨a1, a2, _, _⟩ := prog_step ht h hu (values_few h hf)
    have e0 : (decide ((0 : Int) < (([requestS w] : List api_Message).length : Int))) = true := by simp
    rw [whileF]
    simp only [decide_true, if_true, Option.bind_some, e0, idx_zero, a1, a2, Fl.then_go]
    unfold moveS
    cases k with
    | zero =>
      rw [if_pos (by omega)]
      rw [whileF]
      simp [runW, moveS, hk]
    | succ k =>
      have h0 : w.Level ≠ 0 := by omega
      rw [if_neg h0]
      by_cases hd : dOf t2 w = []
      · rw [if_pos hd]
        rw [whileF]
        simp [runW, moveS, hd, h0]
      · rw [if_neg hd]
        simp only
        rw [prog_loop ht hu hf k (downS w (dOf t2 w)) (K + 1) (h.down h0 hd) (by show w.Level - 1 = (k : Int); omega) (by omega)]
        simp [runW, hd]
theorem ref_loop (ht : Twin t1 t2) (hu : ∀ l ∈ t1.Levels, ∀ x ∈ l, U64 x) (hf : ∀ l ∈ t1.Levels, l.length ≤ 100) : ∀ (k : Nat) (w : api_Walk) (K : Nat), RI t1 w → w.Level = (k : Int) → k + 2 ≤ K →
    whileF (σ := List api_Message × api_Walk) (ρ := List api_Extent × Int × Int) (fun s9 => if (decide (0 < (s9.1.length : Int))) = true then (idx s9.1 0).bind fun x17 => (f_ref44_Answer t2 x17).bind fun x18 => (f_ref44_Learn s9.2 x18.1).bind fun x20 => some (Rd.next (x20.2.1, x20.1)) else some (Rd.done (s9.1, s9.2))) K ([requestS w], w) = some (.go ([], runW t2 k w))
  | k, w, K + 2, h, hk, hK => by
    obtain ⟨_, _, a1, a2⟩ := prog_step ht h hu (values_few h hf)
    have e0 : (decide ((0 : Int) < (([requestS w] : List api_Message).length : Int))) = true := by simp
    rw [whileF]
    simp only [e0, if_true, Option.bind_some, idx_zero, a1, a2]
    unfold moveS
    cases k with
    | zero =>
      rw [if_pos (by omega)]
      rw [whileF]
      simp [runW, moveS, hk]
    | succ k =>
      have h0 : w.Level ≠ 0 := by omega
      rw [if_neg h0]
      by_cases hd : dOf t2 w = []
      · rw [if_pos hd]
        rw [whileF]
        simp [runW, moveS, hd, h0]
      · rw [if_neg hd]
        simp only
        rw [ref_loop ht hu hf k (downS w (dOf t2 w)) (K + 1) (h.down h0 hd) (by show w.Level - 1 = (k : Int); omega) (by omega)]
        simp [runW, hd]
theorem bigK_far : 20000 ≤ bigK := by decide
theorem run_eq (hu : ∀ l ∈ t1.Levels, ∀ x ∈ l, U64 x) (hf : ∀ l ∈ t1.Levels, l.length ≤ 100) (hL : t1.Levels.length ≤ 1000000) (hL2 : t2.Levels.length ≤ 1000000) : f_compare_Run t1 t2 = some (runS t1 t2) := by
  unfold f_compare_Run runS
  rw [begin_eq hL, hcheck_eq hL2]
  simp only [Option.bind_some]
  unfold beginS
  by_cases h1 : checkS t1 = 0
  · rw [if_neg (show ¬ (checkS t1 ≠ 0) by simp [h1]), if_neg (show ¬ (checkS t1 ≠ 0) by simp [h1])]
    simp only [decide_true, if_true, Option.bind_some, Fl.then_go]
    by_cases h2 : checkS t2 = 0
    · rw [if_neg (show ¬ (checkS t2 ≠ 0) by simp [h2])]
      simp only [h2, decide_true, if_true]
      have e1 : (if (!decide (t1.Size = t2.Size)) = true then some true else some (!decide (t1.Leaf = t2.Leaf))) = some (decide (t1.Size ≠ t2.Size ∨ t1.Leaf ≠ t2.Leaf)) := by
        by_cases a : t1.Size = t2.Size <;> by_cases b : t1.Leaf = t2.Leaf <;> simp [a, b]
      rw [e1]
      simp only [Option.bind_some]
      by_cases h3 : t1.Size ≠ t2.Size ∨ t1.Leaf ≠ t2.Leaf
      · rw [if_pos h3]
        have e2 : decide (t1.Size ≠ t2.Size ∨ t1.Leaf ≠ t2.Leaf) = true := by simpa using h3
        rw [e2]
        simp only [if_true, Option.bind_some, Fl.then_go]
        rw [show bigK = (bigK - 1) + 1 by have := bigK_far; omega, whileF]
        simp [Fl.then_go]
      · rw [if_neg h3]
        have e2 : decide (t1.Size ≠ t2.Size ∨ t1.Leaf ≠ t2.Leaf) = false := by simpa using h3
        rw [e2]
        simp only [Bool.false_eq_true, if_false, Option.bind_some, Fl.then_go]
        have ht : Twin t1 t2 := ⟨h1, h2, Decidable.not_not.1 fun e => h3 (.inl e), Decidable.not_not.1 fun e => h3 (.inr e)⟩
        obtain ⟨_, _, _, _, s1, g6, _⟩ := good_levels h1
        have := (shp_top _ _ s1).1
        rw [prog_loop ht hu hf (t1.Levels.length - 1) (firstW t1) bigK (RI.first h1) (by show (t1.Levels.length : Int) - 1 = _; omega) (by have := bigK_far; omega)]
        simp [Fl.then_go]
    · rw [if_pos (show checkS t2 ≠ 0 from h2)]
      have e2 : decide (checkS t2 = 0) = false := by simpa using h2
      simp only [e2, Bool.false_eq_true, if_false, Option.bind_some, Fl.then_go]
      rw [show bigK = (bigK - 1) + 1 by have := bigK_far; omega, whileF]
      simp [Fl.then_go, h2]
  · rw [if_pos (show checkS t1 ≠ 0 from h1), if_pos (show checkS t1 ≠ 0 from h1)]
    have e2 : decide (checkS t1 = 0) = false := by simpa using h1
    simp only [e2, Bool.false_eq_true, if_false, Option.bind_some, Fl.then_go]
    rw [show bigK = (bigK - 1) + 1 by have := bigK_far; omega, whileF]
    simp [Fl.then_go, h1]
theorem refRun_eq (hu : ∀ l ∈ t1.Levels, ∀ x ∈ l, U64 x) (hf : ∀ l ∈ t1.Levels, l.length ≤ 100) (hL : t1.Levels.length ≤ 1000000) (hL2 : t2.Levels.length ≤ 1000000) : f_ref44_Run t1 t2 = some (runS t1 t2) := by
  unfold f_ref44_Run runS
  rw [refBegin_eq hL, rcheck_eq hL2]
  simp only [Option.bind_some]
  unfold beginS
  by_cases h1 : checkS t1 = 0
  · rw [if_neg (show ¬ (checkS t1 ≠ 0) by simp [h1]), if_neg (show ¬ (checkS t1 ≠ 0) by simp [h1])]
    simp only [decide_true, Bool.not_true, Bool.false_eq_true, if_false]
    by_cases h2 : checkS t2 = 0
    · rw [if_neg (show ¬ (checkS t2 ≠ 0) by simp [h2])]
      simp only [h2, decide_true, Bool.not_true, Bool.false_eq_true, if_false]
      have e1 : (if (!decide (t1.Size = t2.Size)) = true then some true else some (!decide (t1.Leaf = t2.Leaf))) = some (decide (t1.Size ≠ t2.Size ∨ t1.Leaf ≠ t2.Leaf)) := by
        by_cases a : t1.Size = t2.Size <;> by_cases b : t1.Leaf = t2.Leaf <;> simp [a, b]
      rw [e1]
      simp only [Option.bind_some]
      by_cases h3 : t1.Size ≠ t2.Size ∨ t1.Leaf ≠ t2.Leaf
      · rw [if_pos h3, if_pos (show decide (t1.Size ≠ t2.Size ∨ t1.Leaf ≠ t2.Leaf) = true by simpa using h3)]
      · rw [if_neg h3, if_neg (show ¬ decide (t1.Size ≠ t2.Size ∨ t1.Leaf ≠ t2.Leaf) = true by simpa using h3)]
        have ht : Twin t1 t2 := ⟨h1, h2, Decidable.not_not.1 fun e => h3 (.inl e), Decidable.not_not.1 fun e => h3 (.inr e)⟩
        obtain ⟨_, _, _, _, s1, g6, _⟩ := good_levels h1
        have := (shp_top _ _ s1).1
        rw [ref_loop ht hu hf (t1.Levels.length - 1) (firstW t1) bigK (RI.first h1) (by show (t1.Levels.length : Int) - 1 = _; omega) (by have := bigK_far; omega)]
        simp [Fl.then_go]
    · rw [if_pos (show checkS t2 ≠ 0 from h2), if_pos (show (!decide (checkS t2 = 0)) = true by simpa using h2)]
  · rw [if_pos (show checkS t1 ≠ 0 from h1), if_pos (show checkS t1 ≠ 0 from h1), if_pos (show (!decide (checkS t1 = 0)) = true by simpa using h1)]
end Go.Proofs.Ytogflgcngfghpaa
end

/- function 23 -/
section
set_option maxHeartbeats 4000000
set_option linter.unusedVariables false
set_option linter.unusedSimpArgs false
namespace Go.Proofs.Ytogflgcngfghpaa
open Go.J
def f_compare_Bound (a0 : Int) (a1 : Int) (a2 : Int) : Option (Int × Int) :=
  (if (decide (a0 < 1)) = true then some true else some (decide (4096 < a0))).bind fun c1 => if c1 = true then some (0, 2) else (if (decide (a1 < 1)) = true then some true else some (decide (4096 < a1))).bind fun c4 => if c4 = true then some (0, 1) else (quoI .i64 (IntKind.i64.wrap ((IntKind.i64.wrap (a0 + a1)) - 1)) a1).bind fun x7 => (if (decide (a2 < 0)) = true then some true else some (decide (x7 < a2))).bind fun c8 => if c8 = true then some (0, 2) else (whileF (σ := Int × Int) (ρ := Int × Int) (fun s11 => if (decide (1 < s11.1)) = true then some (Rd.next (IntKind.i64.wrap (Int.tdiv (IntKind.i64.wrap (s11.1 + 1)) 2), IntKind.i64.wrap (s11.2 + (min s11.1 (IntKind.i64.wrap (2 * (min a2 (IntKind.i64.wrap (Int.tdiv (IntKind.i64.wrap (s11.1 + 1)) 2))))))))) else some (Rd.done (s11.1, s11.2))) bigK (x7, 1)).bind fun o13 => o13.then fun s11 => some (s11.2, 0)

theorem c_compare_Bound {a0 : Int} {a1 : Int} {a2 : Int} {r : Int × Int} (h : f_compare_Bound a0 a1 a2 = some r) : Ct Try.prog 23 [(Rep.int .i64).at a0, (Rep.int .i64).at a1, (Rep.int .i64).at a2] [] (fun _ : Unit => Pr.tup [(Rep.int .i64).at r.1, (Rep.int .i64).at r.2]) (fun _ => []) := by
  refine Ct.mk Try.func23 rfl Try.ntmps23 (by simp) fun I R => ?_
  refine J.drop0 ?_
  unfold f_compare_Bound at h
  refine J_seq ?_
  refine J_region ?_
  refine JLp (T_assign rfl) rfl (nofun) .none ?_
  refine JLp (T_assign rfl) rfl (nofun) .none ?_
  refine JL_nil ?_
  refine KJ_nrm_then (KJ_J ?_)
  refine J_seq ?_
  refine J_seq ?_
  refine J_region ?_
  refine JLp (T_move rfl) rfl (nofun) .none ?_
  refine JLp (T_lss rfl rfl) rfl (nofun) .none ?_
  refine JLp (T_move rfl) rfl (nofun) .none ?_
  replace h := bnd h; obtain ⟨c1, hc1, h⟩ := h
  refine JL_at 3 [(0, (Rep.int .i64).at a0), (1, (Rep.int .i64).at a1), (2, (Rep.int .i64).at a2), (16, Rep.bool.at c1)] (R) ?_ ?_
  · rcases Bool.eq_false_or_eq_true (decide (a0 < 1)) with hq2 | hq2
    · replace hc1 := ift hq2 hc1
      obtain rfl := inj hc1
      refine JLs rfl rfl hq2 rfl ?_
      refine JLs rfl rfl hq2 rfl ?_
      refine JLp (T_pickT rfl hq2 rfl) rfl (nofun) .none ?_
      refine JL_nil ?_
      exact KJ.sub KJ_end (.cons rfl (.cons rfl (.cons rfl (.cons rfl (.nil _)))))
    · replace hc1 := iff_ hq2 hc1
      refine JLp (T_move rfl) rfl (nofun) (.y rfl rfl hq2) ?_
      refine JLp (T_gtr rfl rfl) rfl (nofun) (.y rfl rfl hq2) ?_
      obtain rfl := inj hc1
      refine JLp (T_pickF rfl hq2 rfl) rfl (nofun) .none ?_
      refine JL_nil ?_
      exact KJ.sub KJ_end (.cons rfl (.cons rfl (.cons rfl (.cons rfl (.nil _)))))
  refine JL_nil ?_
  refine KJ_nrm_then (KJ_J ?_)
  refine J_test rfl (fun hq3 => ?_) (fun hq3 => ?_)
  · replace h := ift hq3 h
    refine J_seq ?_
    refine J_region ?_
    refine JLp (T_assign rfl) rfl (nofun) .none ?_
    refine JLp (T_assign rfl) rfl (nofun) .none ?_
    refine JL_nil ?_
    refine KJ_nrm_then (KJ_J ?_)
    refine J_ret ?_
    refine KJ_ret_then ?_
    obtain rfl := inj h
    exact KJ_retn' Try.results23 (.tmp (.mk rfl) (.tmp (.mk rfl) Rv.nil)) rfl (by simp) rfl
  · replace h := iff_ hq3 h
    refine J_skip ?_
    refine KJ_nrm_then (KJ_J ?_)
    refine J_seq ?_
    refine J_seq ?_
    refine J_region ?_
    refine JLp (T_move rfl) rfl (nofun) .none ?_
    refine JLp (T_lss rfl rfl) rfl (nofun) .none ?_
    refine JLp (T_move rfl) rfl (nofun) .none ?_
    replace h := bnd h; obtain ⟨c4, hc4, h⟩ := h
    refine JL_at 3 [(0, (Rep.int .i64).at a0), (1, (Rep.int .i64).at a1), (2, (Rep.int .i64).at a2), (22, Rep.bool.at c4)] (R) ?_ ?_
    · rcases Bool.eq_false_or_eq_true (decide (a1 < 1)) with hq5 | hq5
      · replace hc4 := ift hq5 hc4
        obtain rfl := inj hc4
        refine JLs rfl rfl hq5 rfl ?_
        refine JLs rfl rfl hq5 rfl ?_
        refine JLp (T_pickT rfl hq5 rfl) rfl (nofun) .none ?_
        refine JL_nil ?_
        exact KJ.sub KJ_end (.cons rfl (.cons rfl (.cons rfl (.cons rfl (.nil _)))))
      · replace hc4 := iff_ hq5 hc4
        refine JLp (T_move rfl) rfl (nofun) (.y rfl rfl hq5) ?_
        refine JLp (T_gtr rfl rfl) rfl (nofun) (.y rfl rfl hq5) ?_
        obtain rfl := inj hc4
        refine JLp (T_pickF rfl hq5 rfl) rfl (nofun) .none ?_
        refine JL_nil ?_
        exact KJ.sub KJ_end (.cons rfl (.cons rfl (.cons rfl (.cons rfl (.nil _)))))
    refine JL_nil ?_
    refine KJ_nrm_then (KJ_J ?_)
    refine J_test rfl (fun hq6 => ?_) (fun hq6 => ?_)
    · replace h := ift hq6 h
      refine J_seq ?_
      refine J_region ?_
      refine JLp (T_assign rfl) rfl (nofun) .none ?_
      refine JLp (T_assign rfl) rfl (nofun) .none ?_
      refine JL_nil ?_
      refine KJ_nrm_then (KJ_J ?_)
      refine J_ret ?_
      refine KJ_ret_then ?_
      obtain rfl := inj h
      exact KJ_retn' Try.results23 (.tmp (.mk rfl) (.tmp (.mk rfl) Rv.nil)) rfl (by simp) rfl
    · replace h := iff_ hq6 h
      refine J_skip ?_
      refine KJ_nrm_then (KJ_J ?_)
      refine J_seq ?_
      refine J_region ?_
      refine JLp (T_move rfl) rfl (nofun) .none ?_
      refine JLp (T_move rfl) rfl (nofun) .none ?_
      refine JLp (T_add rfl rfl) rfl (nofun) .none ?_
      refine JLp (T_sub rfl rfl) rfl (nofun) .none ?_
      refine JLp (T_move rfl) rfl (nofun) .none ?_
      replace h := bnd h; obtain ⟨x7, hx7, h⟩ := h
      refine JLp (T_quoI rfl rfl hx7) rfl (nofun) .none ?_
      refine JLp (T_assign rfl) rfl (nofun) .none ?_
      refine JL_nil ?_
      refine KJ_nrm_then (KJ_J ?_)
      refine J_seq ?_
      refine J_seq ?_
      refine J_region ?_
      refine JLp (T_move rfl) rfl (nofun) .none ?_
      refine JLp (T_lss rfl rfl) rfl (nofun) .none ?_
      refine JLp (T_move rfl) rfl (nofun) .none ?_
      replace h := bnd h; obtain ⟨c8, hc8, h⟩ := h
      refine JL_at 4 [(2, (Rep.int .i64).at a2), (8, (Rep.int .i64).at x7), (35, Rep.bool.at c8)] (R) ?_ ?_
      · rcases Bool.eq_false_or_eq_true (decide (a2 < 0)) with hq9 | hq9
        · replace hc8 := ift hq9 hc8
          obtain rfl := inj hc8
          refine JLs rfl rfl hq9 rfl ?_
          refine JLs rfl rfl hq9 rfl ?_
          refine JLs rfl rfl hq9 rfl ?_
          refine JLp (T_pickT rfl hq9 rfl) rfl (nofun) .none ?_
          refine JL_nil ?_
          exact KJ.sub KJ_end (.cons rfl (.cons rfl (.cons rfl (.nil _))))
        · replace hc8 := iff_ hq9 hc8
          refine JLp (T_move rfl) rfl (nofun) (.y rfl rfl hq9) ?_
          refine JLp (T_move rfl) rfl (nofun) (.y rfl rfl hq9) ?_
          refine JLp (T_gtr rfl rfl) rfl (nofun) (.y rfl rfl hq9) ?_
          obtain rfl := inj hc8
          refine JLp (T_pickF rfl hq9 rfl) rfl (nofun) .none ?_
          refine JL_nil ?_
          exact KJ.sub KJ_end (.cons rfl (.cons rfl (.cons rfl (.nil _))))
      refine JL_nil ?_
      refine KJ_nrm_then (KJ_J ?_)
      refine J_test rfl (fun hq10 => ?_) (fun hq10 => ?_)
      · replace h := ift hq10 h
        refine J_seq ?_
        refine J_region ?_
        refine JLp (T_assign rfl) rfl (nofun) .none ?_
        refine JLp (T_assign rfl) rfl (nofun) .none ?_
        refine JL_nil ?_
        refine KJ_nrm_then (KJ_J ?_)
        refine J_ret ?_
        refine KJ_ret_then ?_
        obtain rfl := inj h
        exact KJ_retn' Try.results23 (.tmp (.mk rfl) (.tmp (.mk rfl) Rv.nil)) rfl (by simp) rfl
      · replace h := iff_ hq10 h
        refine J_skip ?_
        refine KJ_nrm_then (KJ_J ?_)
        refine J_seq ?_
        refine J_region ?_
        refine JLp (T_assign rfl) rfl (nofun) .none ?_
        refine JL_nil ?_
        refine KJ_nrm_then (KJ_J ?_)
        refine J_seq ?_
        replace h := bnd h; obtain ⟨o13, ho14, h⟩ := h
        refine J_cuto o13 (fun (s11 : Int × Int) (g12 : Unit) => [(9, (Rep.int .i64).at s11.2)]) (fun s11 g12 => R) ?_ ?_
        · refine J_block ?_
          refine J_while ho14 (fun (s11 : Int × Int) (g12 : Unit) => [(2, (Rep.int .i64).at a2), (8, (Rep.int .i64).at s11.1), (9, (Rep.int .i64).at s11.2)]) (fun s11 g12 => R) () (.cons rfl (.cons rfl (.cons rfl (.nil _)))) rfl ?_
          intro s11 g12 st17 hb15 hf16
          refine J_seq ?_
          refine J_seq ?_
          refine J_region ?_
          refine JLp (T_move rfl) rfl (nofun) .none ?_
          refine JLp (T_gtr rfl rfl) rfl (nofun) .none ?_
          refine JL_nil ?_
          refine KJ_nrm_then (KJ_J ?_)
          refine J_test rfl (fun hq18 => ?_) (fun hq18 => ?_)
          · replace hb15 := ift hq18 hb15
            refine J_skip ?_
            refine KJ_nrm_then (KJ_J ?_)
            refine J_block ?_
            refine J_seq ?_
            refine J_region ?_
            refine JLp (T_move rfl) rfl (nofun) .none ?_
            refine JLp (T_add rfl rfl) rfl (nofun) .none ?_
            refine JLp (T_quo rfl rfl (by decide)) rfl (nofun) .none ?_
            refine JLp (T_assign rfl) rfl (nofun) .none ?_
            refine JL_nil ?_
            refine KJ_nrm_then (KJ_J ?_)
            refine J_seq ?_
            refine J_region ?_
            refine JLp (T_move rfl) rfl (nofun) .none ?_
            refine JLp (T_move rfl) rfl (nofun) .none ?_
            refine JLp (T_move rfl) rfl (nofun) .none ?_
            refine JLp (T_move rfl) rfl (nofun) .none ?_
            refine JLp (T_min rfl rfl) rfl (nofun) .none ?_
            refine JLp (T_mul rfl rfl) rfl (nofun) .none ?_
            refine JLp (T_min rfl rfl) rfl (nofun) .none ?_
            refine JLp (T_add rfl rfl) rfl (nofun) .none ?_
            refine JLp (T_assign rfl) rfl (nofun) .none ?_
            refine JL_nil ?_
            refine KJ_nrm_then (KJ_J ?_)
            refine J_region ?_
            refine JLp (T_move rfl) rfl (nofun) .none ?_
            refine JLp (T_assign rfl) rfl (nofun) .none ?_
            refine JL_nil ?_
            refine KJ_nrm_blk ?_
            refine KJ_nrm_then ?_
            exact KJ_nx (IntKind.i64.wrap (Int.tdiv (IntKind.i64.wrap (s11.1 + 1)) 2), IntKind.i64.wrap (s11.2 + (min s11.1 (IntKind.i64.wrap (2 * (min a2 (IntKind.i64.wrap (Int.tdiv (IntKind.i64.wrap (s11.1 + 1)) 2)))))))) () (inj hb15) (.cons rfl (.cons rfl (.cons rfl (.nil _)))) rfl
          · replace hb15 := iff_ hq18 hb15
            refine J_exit ?_
            refine KJ_exit_then ?_
            refine KJ_exit_then ?_
            refine KJ_exit_here ?_
            refine KJ_nrm_kq ?_
            obtain rfl := inj hb15
            exact KJ_ot (s11.1, s11.2) () hf16 (.cons rfl (.nil _)) rfl
        · intro s11 g12 hs
          subst hs
          replace h := thn h
          refine KJ_nrm_then (KJ_J ?_)
          refine J_seq ?_
          refine J_region ?_
          refine JLp (T_move rfl) rfl (nofun) .none ?_
          refine JLp (T_assign rfl) rfl (nofun) .none ?_
          refine JLp (T_assign rfl) rfl (nofun) .none ?_
          refine JL_nil ?_
          refine KJ_nrm_then (KJ_J ?_)
          refine J_ret ?_
          obtain rfl := inj h
          exact KJ_retn' Try.results23 (.tmp (.mk rfl) (.tmp (.mk rfl) Rv.nil)) rfl (by simp) rfl
end Go.Proofs.Ytogflgcngfghpaa
end

/- function 24 -/
section
set_option maxHeartbeats 4000000
set_option linter.unusedVariables false
set_option linter.unusedSimpArgs false
namespace Go.Proofs.Ytogflgcngfghpaa
open Go.J
def f_ref44_Bound (a0 : Int) (a1 : Int) (a2 : Int) : Option (Int × Int) :=
  (if (decide (a0 < 1)) = true then some true else some (decide (4096 < a0))).bind fun c1 => if c1 = true then some (0, 2) else (if (decide (a1 < 1)) = true then some true else some (decide (4096 < a1))).bind fun c4 => if c4 = true then some (0, 1) else (f_ref11_Leaves a0 a1).bind fun x7 => (if (decide (a2 < 0)) = true then some true else some (decide (x7 < a2))).bind fun c8 => if c8 = true then some (0, 2) else (whileF (σ := Int × Int) (ρ := Int × Int) (fun s11 => if (decide (1 < s11.1)) = true then some (Rd.next (IntKind.i64.wrap (Int.tdiv (IntKind.i64.wrap (s11.1 + 1)) 2), IntKind.i64.wrap (s11.2 + (min s11.1 (IntKind.i64.wrap (2 * (min a2 (IntKind.i64.wrap (Int.tdiv (IntKind.i64.wrap (s11.1 + 1)) 2))))))))) else some (Rd.done (s11.1, s11.2))) bigK (x7, 1)).bind fun o13 => o13.then fun s11 => some (s11.2, 0)

theorem c_ref44_Bound {a0 : Int} {a1 : Int} {a2 : Int} {r : Int × Int} (h : f_ref44_Bound a0 a1 a2 = some r) : Ct Try.prog 24 [(Rep.int .i64).at a0, (Rep.int .i64).at a1, (Rep.int .i64).at a2] [] (fun _ : Unit => Pr.tup [(Rep.int .i64).at r.1, (Rep.int .i64).at r.2]) (fun _ => []) := by
  refine Ct.mk Try.func24 rfl Try.ntmps24 (by simp) fun I R => ?_
  refine J.drop0 ?_
  unfold f_ref44_Bound at h
  refine J_seq ?_
  refine J_region ?_
  refine JLp (T_assign rfl) rfl (nofun) .none ?_
  refine JLp (T_assign rfl) rfl (nofun) .none ?_
  refine JL_nil ?_
  refine KJ_nrm_then (KJ_J ?_)
  refine J_seq ?_
  refine J_seq ?_
  refine J_region ?_
  refine JLp (T_move rfl) rfl (nofun) .none ?_
  refine JLp (T_lss rfl rfl) rfl (nofun) .none ?_
  refine JLp (T_move rfl) rfl (nofun) .none ?_
  replace h := bnd h; obtain ⟨c1, hc1, h⟩ := h
  refine JL_at 3 [(0, (Rep.int .i64).at a0), (1, (Rep.int .i64).at a1), (2, (Rep.int .i64).at a2), (16, Rep.bool.at c1)] (R) ?_ ?_
  · rcases Bool.eq_false_or_eq_true (decide (a0 < 1)) with hq2 | hq2
    · replace hc1 := ift hq2 hc1
      obtain rfl := inj hc1
      refine JLs rfl rfl hq2 rfl ?_
      refine JLs rfl rfl hq2 rfl ?_
      refine JLp (T_pickT rfl hq2 rfl) rfl (nofun) .none ?_
      refine JL_nil ?_
      exact KJ.sub KJ_end (.cons rfl (.cons rfl (.cons rfl (.cons rfl (.nil _)))))
    · replace hc1 := iff_ hq2 hc1
      refine JLp (T_move rfl) rfl (nofun) (.y rfl rfl hq2) ?_
      refine JLp (T_gtr rfl rfl) rfl (nofun) (.y rfl rfl hq2) ?_
      obtain rfl := inj hc1
      refine JLp (T_pickF rfl hq2 rfl) rfl (nofun) .none ?_
      refine JL_nil ?_
      exact KJ.sub KJ_end (.cons rfl (.cons rfl (.cons rfl (.cons rfl (.nil _)))))
  refine JL_nil ?_
  refine KJ_nrm_then (KJ_J ?_)
  refine J_test rfl (fun hq3 => ?_) (fun hq3 => ?_)
  · replace h := ift hq3 h
    refine J_seq ?_
    refine J_region ?_
    refine JLp (T_assign rfl) rfl (nofun) .none ?_
    refine JLp (T_assign rfl) rfl (nofun) .none ?_
    refine JL_nil ?_
    refine KJ_nrm_then (KJ_J ?_)
    refine J_ret ?_
    refine KJ_ret_then ?_
    obtain rfl := inj h
    exact KJ_retn' Try.results24 (.tmp (.mk rfl) (.tmp (.mk rfl) Rv.nil)) rfl (by simp) rfl
  · replace h := iff_ hq3 h
    refine J_skip ?_
    refine KJ_nrm_then (KJ_J ?_)
    refine J_seq ?_
    refine J_seq ?_
    refine J_region ?_
    refine JLp (T_move rfl) rfl (nofun) .none ?_
    refine JLp (T_lss rfl rfl) rfl (nofun) .none ?_
    refine JLp (T_move rfl) rfl (nofun) .none ?_
    replace h := bnd h; obtain ⟨c4, hc4, h⟩ := h
    refine JL_at 3 [(0, (Rep.int .i64).at a0), (1, (Rep.int .i64).at a1), (2, (Rep.int .i64).at a2), (22, Rep.bool.at c4)] (R) ?_ ?_
    · rcases Bool.eq_false_or_eq_true (decide (a1 < 1)) with hq5 | hq5
      · replace hc4 := ift hq5 hc4
        obtain rfl := inj hc4
        refine JLs rfl rfl hq5 rfl ?_
        refine JLs rfl rfl hq5 rfl ?_
        refine JLp (T_pickT rfl hq5 rfl) rfl (nofun) .none ?_
        refine JL_nil ?_
        exact KJ.sub KJ_end (.cons rfl (.cons rfl (.cons rfl (.cons rfl (.nil _)))))
      · replace hc4 := iff_ hq5 hc4
        refine JLp (T_move rfl) rfl (nofun) (.y rfl rfl hq5) ?_
        refine JLp (T_gtr rfl rfl) rfl (nofun) (.y rfl rfl hq5) ?_
        obtain rfl := inj hc4
        refine JLp (T_pickF rfl hq5 rfl) rfl (nofun) .none ?_
        refine JL_nil ?_
        exact KJ.sub KJ_end (.cons rfl (.cons rfl (.cons rfl (.cons rfl (.nil _)))))
    refine JL_nil ?_
    refine KJ_nrm_then (KJ_J ?_)
    refine J_test rfl (fun hq6 => ?_) (fun hq6 => ?_)
    · replace h := ift hq6 h
      refine J_seq ?_
      refine J_region ?_
      refine JLp (T_assign rfl) rfl (nofun) .none ?_
      refine JLp (T_assign rfl) rfl (nofun) .none ?_
      refine JL_nil ?_
      refine KJ_nrm_then (KJ_J ?_)
      refine J_ret ?_
      refine KJ_ret_then ?_
      obtain rfl := inj h
      exact KJ_retn' Try.results24 (.tmp (.mk rfl) (.tmp (.mk rfl) Rv.nil)) rfl (by simp) rfl
    · replace h := iff_ hq6 h
      refine J_skip ?_
      refine KJ_nrm_then (KJ_J ?_)
      refine J_seq ?_
      refine J_region ?_
      refine JLp (T_move rfl) rfl (nofun) .none ?_
      refine JLp (T_move rfl) rfl (nofun) .none ?_
      replace h := bnd h; obtain ⟨x7, hx7, h⟩ := h
      refine JLe0 (T_call ⟨_, Try.func58, rfl, rfl⟩ (c_ref11_Leaves hx7) ⟨(.mk rfl), ⟨(.mk rfl), trivial⟩⟩) rfl .none ?_
      refine JLp (T_assign rfl) rfl (nofun) .none ?_
      refine JL_nil ?_
      refine KJ_nrm_then (KJ_J ?_)
      refine J_seq ?_
      refine J_seq ?_
      refine J_region ?_
      refine JLp (T_move rfl) rfl (nofun) .none ?_
      refine JLp (T_lss rfl rfl) rfl (nofun) .none ?_
      refine JLp (T_move rfl) rfl (nofun) .none ?_
      replace h := bnd h; obtain ⟨c8, hc8, h⟩ := h
      refine JL_at 4 [(2, (Rep.int .i64).at a2), (8, (Rep.int .i64).at x7), (32, Rep.bool.at c8)] (R) ?_ ?_
      · rcases Bool.eq_false_or_eq_true (decide (a2 < 0)) with hq9 | hq9
        · replace hc8 := ift hq9 hc8
          obtain rfl := inj hc8
          refine JLs rfl rfl hq9 rfl ?_
          refine JLs rfl rfl hq9 rfl ?_
          refine JLs rfl rfl hq9 rfl ?_
          refine JLp (T_pickT rfl hq9 rfl) rfl (nofun) .none ?_
          refine JL_nil ?_
          exact KJ.sub KJ_end (.cons rfl (.cons rfl (.cons rfl (.nil _))))
        · replace hc8 := iff_ hq9 hc8
          refine JLp (T_move rfl) rfl (nofun) (.y rfl rfl hq9) ?_
          refine JLp (T_move rfl) rfl (nofun) (.y rfl rfl hq9) ?_
          refine JLp (T_gtr rfl rfl) rfl (nofun) (.y rfl rfl hq9) ?_
          obtain rfl := inj hc8
          refine JLp (T_pickF rfl hq9 rfl) rfl (nofun) .none ?_
          refine JL_nil ?_
          exact KJ.sub KJ_end (.cons rfl (.cons rfl (.cons rfl (.nil _))))
      refine JL_nil ?_
      refine KJ_nrm_then (KJ_J ?_)
      refine J_test rfl (fun hq10 => ?_) (fun hq10 => ?_)
      · replace h := ift hq10 h
        refine J_seq ?_
        refine J_region ?_
        refine JLp (T_assign rfl) rfl (nofun) .none ?_
        refine JLp (T_assign rfl) rfl (nofun) .none ?_
        refine JL_nil ?_
        refine KJ_nrm_then (KJ_J ?_)
        refine J_ret ?_
        refine KJ_ret_then ?_
        obtain rfl := inj h
        exact KJ_retn' Try.results24 (.tmp (.mk rfl) (.tmp (.mk rfl) Rv.nil)) rfl (by simp) rfl
      · replace h := iff_ hq10 h
        refine J_skip ?_
        refine KJ_nrm_then (KJ_J ?_)
        refine J_seq ?_
        refine J_region ?_
        refine JLp (T_assign rfl) rfl (nofun) .none ?_
        refine JL_nil ?_
        refine KJ_nrm_then (KJ_J ?_)
        refine J_seq ?_
        replace h := bnd h; obtain ⟨o13, ho14, h⟩ := h
        refine J_cuto o13 (fun (s11 : Int × Int) (g12 : Unit) => [(9, (Rep.int .i64).at s11.2)]) (fun s11 g12 => R) ?_ ?_
        · refine J_block ?_
          refine J_while ho14 (fun (s11 : Int × Int) (g12 : Unit) => [(2, (Rep.int .i64).at a2), (8, (Rep.int .i64).at s11.1), (9, (Rep.int .i64).at s11.2)]) (fun s11 g12 => R) () (.cons rfl (.cons rfl (.cons rfl (.nil _)))) rfl ?_
          intro s11 g12 st17 hb15 hf16
          refine J_seq ?_
          refine J_seq ?_
          refine J_region ?_
          refine JLp (T_move rfl) rfl (nofun) .none ?_
          refine JLp (T_gtr rfl rfl) rfl (nofun) .none ?_
          refine JL_nil ?_
          refine KJ_nrm_then (KJ_J ?_)
          refine J_test rfl (fun hq18 => ?_) (fun hq18 => ?_)
          · replace hb15 := ift hq18 hb15
            refine J_skip ?_
            refine KJ_nrm_then (KJ_J ?_)
            refine J_block ?_
            refine J_seq ?_
            refine J_region ?_
            refine JLp (T_move rfl) rfl (nofun) .none ?_
            refine JLp (T_add rfl rfl) rfl (nofun) .none ?_
            refine JLp (T_quo rfl rfl (by decide)) rfl (nofun) .none ?_
            refine JLp (T_assign rfl) rfl (nofun) .none ?_
            refine JL_nil ?_
            refine KJ_nrm_then (KJ_J ?_)
            refine J_seq ?_
            refine J_region ?_
            refine JLp (T_move rfl) rfl (nofun) .none ?_
            refine JLp (T_move rfl) rfl (nofun) .none ?_
            refine JLp (T_move rfl) rfl (nofun) .none ?_
            refine JLp (T_move rfl) rfl (nofun) .none ?_
            refine JLp (T_min rfl rfl) rfl (nofun) .none ?_
            refine JLp (T_mul rfl rfl) rfl (nofun) .none ?_
            refine JLp (T_min rfl rfl) rfl (nofun) .none ?_
            refine JLp (T_add rfl rfl) rfl (nofun) .none ?_
            refine JLp (T_assign rfl) rfl (nofun) .none ?_
            refine JL_nil ?_
            refine KJ_nrm_then (KJ_J ?_)
            refine J_region ?_
            refine JLp (T_move rfl) rfl (nofun) .none ?_
            refine JLp (T_assign rfl) rfl (nofun) .none ?_
            refine JL_nil ?_
            refine KJ_nrm_blk ?_
            refine KJ_nrm_then ?_
            exact KJ_nx (IntKind.i64.wrap (Int.tdiv (IntKind.i64.wrap (s11.1 + 1)) 2), IntKind.i64.wrap (s11.2 + (min s11.1 (IntKind.i64.wrap (2 * (min a2 (IntKind.i64.wrap (Int.tdiv (IntKind.i64.wrap (s11.1 + 1)) 2)))))))) () (inj hb15) (.cons rfl (.cons rfl (.cons rfl (.nil _)))) rfl
          · replace hb15 := iff_ hq18 hb15
            refine J_exit ?_
            refine KJ_exit_then ?_
            refine KJ_exit_then ?_
            refine KJ_exit_here ?_
            refine KJ_nrm_kq ?_
            obtain rfl := inj hb15
            exact KJ_ot (s11.1, s11.2) () hf16 (.cons rfl (.nil _)) rfl
        · intro s11 g12 hs
          subst hs
          replace h := thn h
          refine KJ_nrm_then (KJ_J ?_)
          refine J_seq ?_
          refine J_region ?_
          refine JLp (T_move rfl) rfl (nofun) .none ?_
          refine JLp (T_assign rfl) rfl (nofun) .none ?_
          refine JLp (T_assign rfl) rfl (nofun) .none ?_
          refine JL_nil ?_
          refine KJ_nrm_then (KJ_J ?_)
          refine J_ret ?_
          obtain rfl := inj h
          exact KJ_retn' Try.results24 (.tmp (.mk rfl) (.tmp (.mk rfl) Rv.nil)) rfl (by simp) rfl
end Go.Proofs.Ytogflgcngfghpaa
end
