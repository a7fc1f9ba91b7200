/- A part of the proof: Learning an answer: the program and the reference give the same walk, the same messages, the same error. No condition. -/
import Derived.Test.YtogflgcngfghpaaC11

/- Learning an answer: the program and the reference give the same walk, the same messages, the same error. -/
section
set_option maxHeartbeats 1000000
set_option linter.unusedVariables false
set_option linter.unusedSimpArgs false
namespace Go.Proofs.Ytogflgcngfghpaa
open Go.J

theorem refDiffer_eq {ρ : Type} {L : List (List Int)} {lv : Int} {nodes body level : List Int} (hlv : 0 ≤ lv ∧ lv.toNat < L.length) (hle : level = L.getD lv.toNat []) (hn : ∀ n ∈ nodes, 0 ≤ n ∧ n.toNat < level.length) (hb : body.length = 8 * nodes.length) (hnl : nodes.length ≤ 100000) (hu : ∀ x ∈ body, U8 x) (hv : ∀ x ∈ level, U64 x) :
    whileF (σ := List Int × Int) (ρ := ρ) (fun s14 => if (decide (s14.2 < (nodes.length : Int))) = true then (f_ref44_digest body s14.2).bind fun x22 => (idx L lv).bind fun x23 => (idx nodes s14.2).bind fun x24 => (idx x23 x24).bind fun x25 => ((if (!decide (x22 = x25)) = true then (idx nodes s14.2).bind fun x31 => (app 8 s14.1 [x31]).bind fun x32 => some (Fl.go x32) else some (Fl.go s14.1) : Option (Fl (List Int) (Rd (List Int × Int) ρ)))).bind fun o27 => o27.then fun s29 => some (Rd.next (s29, IntKind.i64.wrap (s14.2 + 1))) else some (Rd.done (s14.1, s14.2))) bigK ([], 0) = some (.go (differS nodes body level, (nodes.length : Int))) := by
  have := while_go (ρ := ρ) (body := fun (s14 : List Int × Int) => if (decide (s14.2 < (nodes.length : Int))) = true then (f_ref44_digest body s14.2).bind fun x22 => (idx L lv).bind fun x23 => (idx nodes s14.2).bind fun x24 => (idx x23 x24).bind fun x25 => ((if (!decide (x22 = x25)) = true then (idx nodes s14.2).bind fun x31 => (app 8 s14.1 [x31]).bind fun x32 => some (Fl.go x32) else some (Fl.go s14.1) : Option (Fl (List Int) (Rd (List Int × Int) ρ)))).bind fun o27 => o27.then fun s29 => some (Rd.next (s29, IntKind.i64.wrap (s14.2 + 1))) else some (Rd.done (s14.1, s14.2)))
    (fun k => ((List.range k).flatMap (diffAt nodes body level), (k : Int))) nodes.length (K := bigK) (Nat.lt_of_le_of_lt (by simp [lim]; omega) lim_bigK) (fun k hk => by
      have hx := hn nodes[k] (List.getElem_mem _)
      have hdr := diffR_len nodes body level k
      simp only
      rw [if_pos (by simp; omega), refDig_eq hu (by omega) (by omega), idx_getD hlv.1 hlv.2 [], ← hle, idx_get hk]
      simp only [Option.bind_some]
      rw [idx_getD hx.1 hx.2 0]
      simp only [Option.bind_some]
      have hxe : nodes.getD k 0 = nodes[k] := by simp [List.getD_eq_getElem?_getD, hk]
      have hvv : U64 (level.getD nodes[k].toNat 0) := by
        rw [List.getD_eq_getElem?_getD, List.getElem?_eq_getElem hx.2]
        exact hv _ (List.getElem_mem _)
      have hcl : ((body.drop (8 * k)).take 8).length = 8 := by simp; omega
      have hiff : asmH ((body.drop (8 * k)).take 8) = level.getD nodes[k].toNat 0 ↔ (body.drop (8 * k)).take 8 = bytesS (level.getD nodes[k].toNat 0) := by
        constructor
        · intro h
          refine asm_inj (by rw [hcl, bytes_len]) (fun x hx => hu x (List.mem_of_mem_drop (List.mem_of_mem_take hx))) (bytes_U8 _) ?_
          rw [h, bytes_asm hvv]
        · intro h
          rw [h, bytes_asm hvv]
      have er : (List.range (k + 1)).flatMap (diffAt nodes body level) = (List.range k).flatMap (diffAt nodes body level) ++ (if (body.drop (8 * k)).take 8 = bytesS (level.getD nodes[k].toNat 0) then [] else [nodes[k]]) := by
        rw [List.range_succ, List.flatMap_append]
        simp only [List.flatMap_cons, List.flatMap_nil, List.append_nil]
        unfold diffAt
        rw [hxe]
      rw [er, w64 (n := (k : Int) + 1) (by omega) (by omega)]
      by_cases heq : (body.drop (8 * k)).take 8 = bytesS (level.getD nodes[k].toNat 0)
      · rw [if_neg (by simp only [hiff.2 heq, decide_true, Bool.not_true]; decide), if_pos heq]
        simp only [Option.bind_some, Fl.then_go, List.append_nil]
        simp
      · rw [if_pos (by simp only [Bool.not_eq_true', decide_eq_false_iff_not]; exact fun h => heq (hiff.1 h)), if_neg heq, app_ok (by simp only [List.length_singleton, lim]; omega) (by simp only [List.length_singleton, lim]; omega)]
        simp only [Option.bind_some, Fl.then_go]
        simp) (s' := (differS nodes body level, (nodes.length : Int))) (by
      simp [differS])
  exact this

structure WOK (w : api_Walk) : Prop where
  lv : w.Tree.Levels.length ≤ 1000000
  p : ∀ e ∈ w.Pending, EI e
  f : ∀ e ∈ w.Found, EI e
  pl : w.Pending.length ≤ 1000000
  fl : w.Found.length ≤ 1000000
  u : ∀ l ∈ w.Tree.Levels, ∀ x ∈ l, U64 x

theorem check_good {w : api_Walk} (h : wchkS w = 0) : checkS w.Tree = 0 ∧ rngS w = false ∧ formS w = true := by
  unfold wchkS at h
  split at h
  · rename_i h1
    split at h
    · cases h
    · rename_i h2
      split at h
      · rename_i h3
        exact ⟨h1, by simpa using h2, h3⟩
      · cases h
  · rename_i h1; exact absurd h h1
theorem check_open {w : api_Walk} (h : wchkS w = 0) (hd : w.Done = false) : w.Found = [] ∧ w.Pending ≠ [] ∧ checkE w.Pending ((levelS w).length : Int) = 0 := by
  have := (check_good h).2.2
  unfold formS at this
  rw [hd] at this
  simp only [Bool.false_eq_true, if_false, Bool.and_eq_true, Bool.not_eq_true', decide_eq_false_iff_not, decide_eq_true_eq] at this
  obtain ⟨⟨h1, h2⟩, h3⟩ := this
  refine ⟨List.length_eq_zero_iff.1 (by omega), fun e => by rw [e] at h1; exact h1 rfl, h3⟩
theorem shp_head0 : ∀ {L : List (List Int)} {n : Nat}, shp L n = true → (L.getD 0 []).length = n
  | [], _, h => by simp [shp] at h
  | [l], n, h => by simp [shp] at h; simp; omega
  | l :: m :: r, n, h => by simp [shp] at h; simp [h]
theorem leaf_lt {size leaf n : Int} (h1 : 1 ≤ size) (h3 : 1 ≤ leaf) (hn : 0 ≤ n) (h : n.toNat < leavesS size leaf) : n * leaf < size := by
  unfold leavesS at h
  have h2 : n + 1 ≤ (size + leaf - 1) / leaf := by omega
  have := (Int.le_ediv_iff_mul_le (by omega)).1 h2
  rw [Int.add_mul] at this
  omega

def w0 : api_Walk := ⟨⟨0, 0, []⟩, [], 0, [], 0, false⟩
def stepD (w : api_Walk) (m : api_Message) : List Int := differS (nodesS w.Pending) m.Body (levelS w)
def sentD (w : api_Walk) : Int := w.Sent + ((nodesS w.Pending).length : Int)
def downS (w : api_Walk) (d : List Int) : api_Walk := ⟨w.Tree, foldX (oneS (belowS (w.Tree.Levels.getD (w.Level - 1).toNat []).length d)), w.Level - 1, [], sentD w, false⟩
def moveS (w : api_Walk) (d : List Int) : api_Walk × List api_Message × Int :=
  if w.Level = 0 then (⟨w.Tree, [], 0, foldX (secs w.Tree.Size w.Tree.Leaf d), sentD w, true⟩, [], 0)
  else if d = [] then (⟨w.Tree, [], 0, [], sentD w, true⟩, [], 0)
  else (downS w d, [requestS (downS w d)], 0)
def learnS (w : api_Walk) (m : api_Message) : api_Walk × List api_Message × Int :=
  if wchkS w ≠ 0 then (w0, [], wchkS w) else if w.Done = true then (w0, [], 12) else if m.Kind ≠ 14 then (w0, [], 1) else
  if m.Number ≠ w.Level ∨ m.Values ≠ valuesS w then (w0, [], 22) else if m.Body.length ≠ 8 * (nodesS w.Pending).length then (w0, [], 3) else moveS w (stepD w m)

/-- What holds of a walk that is open and passes the check. -/
structure Open (w : api_Walk) : Prop where
  good : checkS w.Tree = 0
  lv : 0 ≤ w.Level ∧ w.Level.toNat < w.Tree.Levels.length
  lb : w.Level ≤ 5000
  sent : 0 ≤ w.Sent ∧ w.Sent ≤ 8192
  found : w.Found = []
  done : w.Done = false
  pend : w.Pending ≠ []
  sep : Sep w.Pending
  nodes : ∀ n ∈ nodesS w.Pending, 0 ≤ n ∧ n.toNat < (levelS w).length
  len : (levelS w).length ≤ 4096
theorem Open.of {w : api_Walk} (h : wchkS w = 0) (hd : w.Done = false) : Open w := by
  obtain ⟨h1, h2, h3⟩ := check_good h
  obtain ⟨l1, l2, l3, l4, _⟩ := lv_of_rng h2
  obtain ⟨f1, f2, f3⟩ := check_open h hd
  obtain ⟨_, _, _, _, _, g6, g7⟩ := good_levels h1
  have hc := inside_of_check f3
  refine ⟨h1, ⟨l1, l2⟩, by omega, ⟨l3, l4⟩, f1, hd, f2, sep_of_check f3, nodes_in hc.1 hc.2, ?_⟩
  unfold levelS
  rw [List.getD_eq_getElem?_getD, List.getElem?_eq_getElem l2]
  exact g7 _ (List.getElem_mem _)
theorem Open.rise {w : api_Walk} (h : Open w) (m : api_Message) : Rising (stepD w m) ∧ (∀ n ∈ stepD w m, 0 ≤ n ∧ n.toNat < (levelS w).length) ∧ (stepD w m).length ≤ 4096 := by
  have hs := differ_sub (nodesS w.Pending) m.Body (levelS w)
  refine ⟨List.Pairwise.sublist hs (nodes_rising h.sep), fun n hn => h.nodes n (hs.subset hn), ?_⟩
  have := hs.length_le
  have := sep_nodes h.sep
  unfold stepD; omega
theorem Open.leaf {w : api_Walk} (h : Open w) (h0 : w.Level = 0) {n : Int} (hn : 0 ≤ n ∧ n.toNat < (levelS w).length) : 0 ≤ n ∧ n * w.Tree.Leaf < w.Tree.Size := by
  obtain ⟨g1, g2, g3, g4, g5, _⟩ := good_levels h.good
  have := shp_head0 g5
  unfold levelS at hn
  rw [h0] at hn
  have e : (0 : Int).toNat = 0 := rfl
  rw [e, this] at hn
  exact ⟨hn.1, leaf_lt g1 g3 hn.1 hn.2⟩
theorem Open.below {w : api_Walk} (h : Open w) (h0 : w.Level ≠ 0) : (w.Level - 1).toNat < w.Tree.Levels.length ∧ (w.Tree.Levels.getD (w.Level - 1).toNat []).length ≤ 4096 := by
  obtain ⟨g1, g2, g3, g4, g5, g6, g7⟩ := good_levels h.good
  have h1 := h.lv
  have h2 : (w.Level - 1).toNat < w.Tree.Levels.length := by omega
  refine ⟨h2, ?_⟩
  rw [List.getD_eq_getElem?_getD, List.getElem?_eq_getElem h2]
  exact g7 _ (List.getElem_mem _)
theorem below_sep {w : api_Walk} (h : Open w) (m : api_Message) (h0 : w.Level ≠ 0) : Sep (downS w (stepD w m)).Pending := by
  obtain ⟨r1, r2, r3⟩ := h.rise m
  have hl := h.len
  exact foldX_sep (one_chain (below_rising r1) (below_bd (h.below h0).2 fun n hn => by have := r2 n hn; omega))

theorem learn_eq {w : api_Walk} {m : api_Message} (hw : WOK w) (hv : m.Values.length ≤ lim) (hu : ∀ x ∈ m.Body, U8 x) : f_compare_Learn w m = some (learnS w m) := by
  unfold f_compare_Learn learnS
  rw [wcheck_eq hw.lv hw.p hw.f]
  simp only [Option.bind_some]
  by_cases h1 : wchkS w = 0
  · rw [if_neg (show ¬ ((!decide (wchkS w = 0)) = true) by simp [h1]), if_neg (show ¬ (wchkS w ≠ 0) by simp [h1])]
    obtain ⟨h2, h3, h4⟩ := check_good h1
    obtain ⟨_, _, _, _, _, g6, g7⟩ := good_levels h2
    rw [copied_eq (by omega) (fun l hl => by have := g7 l hl; omega)]
    simp only [Option.bind_some]
    rw [show (⟨w.Tree, w.Pending, w.Level, w.Found, w.Sent, w.Done⟩ : api_Walk) = w from rfl, request_eq hw.pl]
    simp only [Option.bind_some]
    rcases Bool.eq_false_or_eq_true w.Done with hd | hd
    · simp only [hd, if_true]; rfl
    · simp only [hd, Bool.false_eq_true, if_false]
      have ho := Open.of h1 hd
      by_cases h5 : m.Kind = 14
      · rw [if_neg (show ¬ ((!decide (m.Kind = 14)) = true) by simp [h5]), if_neg (show ¬ (m.Kind ≠ 14) by simp [h5])]
        rw [eqInt hv]
        simp only [Option.bind_some]
        have e1 : (if (!decide (m.Number = (requestS w).Number)) = true then some true else some (!decide (m.Values = (requestS w).Values))) = some (decide (m.Number ≠ w.Level ∨ m.Values ≠ valuesS w)) := by
          rw [show (requestS w).Number = w.Level from rfl, show (requestS w).Values = valuesS w from rfl]
          by_cases a : m.Number = w.Level <;> by_cases b : m.Values = valuesS w <;> simp [a, b]
        rw [e1]
        simp only [Option.bind_some]
        by_cases h6 : m.Number ≠ w.Level ∨ m.Values ≠ valuesS w
        · rw [if_pos (show decide (m.Number ≠ w.Level ∨ m.Values ≠ valuesS w) = true by simpa using h6), if_pos h6]; rfl
        · rw [if_neg (show ¬ (decide (m.Number ≠ w.Level ∨ m.Values ≠ valuesS w) = true) by simpa using h6), if_neg h6, count_eq ho.sep]
          simp only [Option.bind_some]
          have hnl := sep_nodes ho.sep
          rw [w64 (n := 8 * ((nodesS w.Pending).length : Int)) (by omega) (by omega)]
          by_cases h7 : m.Body.length = 8 * (nodesS w.Pending).length
          · rw [if_neg (show ¬ ((!decide ((m.Body.length : Int) = 8 * ((nodesS w.Pending).length : Int))) = true) by simp; omega), if_neg (show ¬ (m.Body.length ≠ 8 * (nodesS w.Pending).length) by simp [h7])]
            rw [differing_eq ho.lv ho.sep.1 ho.nodes h7 (by omega) ⟨ho.sent.1, by have := ho.sent.2; omega⟩]
            simp only [Option.bind_some]
            have hr := ho.rise m
            have hll := ho.len
            rw [show differS (nodesS w.Pending) m.Body (levelS w) = stepD w m from rfl]
            unfold moveS
            by_cases h8 : w.Level = 0
            · rw [if_pos (by simpa using h8), if_pos h8]
              obtain ⟨q1, q2, q3, q4, _⟩ := good_levels h2
              rw [find_eq (w := { w with Sent := w.Sent + ((nodesS w.Pending).length : Int) }) hr.1 (by exact q3) (by exact q4) (by exact q2) (fun n hn => ho.leaf h8 (hr.2.1 n hn)) (by omega)]
              rfl
            · rw [if_neg (by simpa using h8), if_neg h8]
              by_cases h9 : stepD w m = []
              · rw [if_pos (by simp [h9]), if_pos h9]
                simp only [f_compare_walk_finish, Option.bind_some, Fl.then_go]
                rw [ho.found]; rfl
              · have h10 : (stepD w m).length ≠ 0 := fun e => h9 (List.length_eq_zero_iff.1 e)
                rw [if_neg (by simpa using h9), if_neg h9]
                have hl0 := ho.lv
                have hlb := ho.lb
                rw [descend_eq (w := { w with Sent := w.Sent + ((nodesS w.Pending).length : Int) }) (by show 1 ≤ w.Level; omega) (by show w.Level ≤ 1000000; omega) (ho.below h8).1 rfl (ho.below h8).2 hr.1 (fun n hn => by have := hr.2.1 n hn; omega)]
                simp only [Option.bind_some]
                have e2 : ({ w with Level := w.Level - 1, Pending := foldX (oneS (belowS (w.Tree.Levels.getD (w.Level - 1).toNat []).length (stepD w m))), Sent := w.Sent + ((nodesS w.Pending).length : Int) } : api_Walk) = downS w (stepD w m) := by
                  unfold downS sentD
                  rw [ho.found, hd]
                rw [e2, request_eq (by have := sep_short (below_sep ho m h8); omega)]
                rfl
          · rw [if_pos (show (!decide ((m.Body.length : Int) = 8 * ((nodesS w.Pending).length : Int))) = true by simp; omega), if_pos (show m.Body.length ≠ 8 * (nodesS w.Pending).length from h7)]; rfl
      · rw [if_pos (show (!decide (m.Kind = 14)) = true by simp [h5]), if_pos (show m.Kind ≠ 14 from h5)]; rfl
  · rw [if_pos (show (!decide (wchkS w = 0)) = true by simp [h1]), if_pos (show wchkS w ≠ 0 from h1)]; rfl

theorem refLearn_eq {w : api_Walk} {m : api_Message} (hw : WOK w) (hv : m.Values.length ≤ lim) (hu : ∀ x ∈ m.Body, U8 x) : f_ref44_Learn w m = some (learnS w m) := by
  unfold f_ref44_Learn learnS
  rw [refWcheck_eq hw.lv hw.p hw.f (by have := hw.pl; simp [lim]; omega) (by have := hw.fl; simp [lim]; omega)]
  simp only [Option.bind_some]
  by_cases h1 : wchkS w = 0
  · rw [if_neg (show ¬ ((!decide (wchkS w = 0)) = true) by simp [h1]), if_neg (show ¬ (wchkS w ≠ 0) by simp [h1])]
    obtain ⟨h2, h3, h4⟩ := check_good h1
    obtain ⟨_, _, _, _, _, g6, g7⟩ := good_levels h2
    rcases Bool.eq_false_or_eq_true w.Done with hd | hd
    · simp only [hd, if_true]; rfl
    · simp only [hd, Bool.false_eq_true, if_false]
      have ho := Open.of h1 hd
      by_cases h5 : m.Kind = 14
      · rw [if_neg (show ¬ ((!decide (m.Kind = 14)) = true) by simp [h5]), if_neg (show ¬ (m.Kind ≠ 14) by simp [h5])]
        rw [refRequest_eq hw.pl]
        simp only [Option.bind_some]
        rw [sameInts_eq hv]
        simp only [Option.bind_some]
        have e1 : (if (!decide (m.Number = (requestS w).Number)) = true then some true else some (!decide (m.Values = (requestS w).Values))) = some (decide (m.Number ≠ w.Level ∨ m.Values ≠ valuesS w)) := by
          rw [show (requestS w).Number = w.Level from rfl, show (requestS w).Values = valuesS w from rfl]
          by_cases a : m.Number = w.Level <;> by_cases b : m.Values = valuesS w <;> simp [a, b]
        rw [e1]
        simp only [Option.bind_some]
        by_cases h6 : m.Number ≠ w.Level ∨ m.Values ≠ valuesS w
        · rw [if_pos (show decide (m.Number ≠ w.Level ∨ m.Values ≠ valuesS w) = true by simpa using h6), if_pos h6]; rfl
        · rw [if_neg (show ¬ (decide (m.Number ≠ w.Level ∨ m.Values ≠ valuesS w) = true) by simpa using h6), if_neg h6, refNodes_eq ho.sep.1 (by have := sep_short ho.sep; omega)]
          simp only [Option.bind_some]
          have hnl := sep_nodes ho.sep
          rw [w64 (n := 8 * ((nodesS w.Pending).length : Int)) (by omega) (by omega)]
          by_cases h7 : m.Body.length = 8 * (nodesS w.Pending).length
          · rw [if_neg (show ¬ ((!decide ((m.Body.length : Int) = 8 * ((nodesS w.Pending).length : Int))) = true) by simp; omega), if_neg (show ¬ (m.Body.length ≠ 8 * (nodesS w.Pending).length) by simp [h7])]
            have hlm : levelS w ∈ w.Tree.Levels := by
              unfold levelS
              rw [List.getD_eq_getElem?_getD, List.getElem?_eq_getElem ho.lv.2]
              exact List.getElem_mem _
            rw [refDiffer_eq (level := levelS w) ho.lv rfl ho.nodes h7 (by omega) hu (fun x hx => hw.u _ hlm x hx)]
            simp only [Option.bind_some, Fl.then_go]
            have hr := ho.rise m
            have hll := ho.len
            rw [show differS (nodesS w.Pending) m.Body (levelS w) = stepD w m from rfl]
            have hse := ho.sent
            rw [w64 (n := w.Sent + ((nodesS w.Pending).length : Int)) (by omega) (by omega)]
            rw [show w.Sent + ((nodesS w.Pending).length : Int) = sentD w from rfl]
            unfold moveS
            by_cases h8 : w.Level = 0
            · have e8 : decide (w.Level = 0) = true := by simpa using h8
              simp only [e8, if_true, Option.bind_some]
              obtain ⟨q1, q2, q3, q4, _⟩ := good_levels h2
              rw [refExtents_eq hr.1 (by exact q3) (by exact q4) (by exact q2) (fun n hn => ho.leaf h8 (hr.2.1 n hn)) (by omega)]
              simp only [Option.bind_some, Fl.then_go, if_pos h8]
            · have e8 : decide (w.Level = 0) = false := by simpa using h8
              simp only [e8, Bool.false_eq_true, if_false, Option.bind_some, if_neg h8]
              by_cases h9 : stepD w m = []
              · have e9 : decide (((stepD w m).length : Int) = 0) = true := by simp [h9]
                simp only [e9, if_true, Option.bind_some, Fl.then_go, if_pos h9]
              · have h10 : (stepD w m).length ≠ 0 := fun e => h9 (List.length_eq_zero_iff.1 e)
                have e9 : decide (((stepD w m).length : Int) = 0) = false := by simpa using h9
                simp only [e9, Bool.false_eq_true, if_false, if_neg h9]
                have hl0 := ho.lv
                have hlb := ho.lb
                rw [refBelow_eq (L := w.Tree.Levels) (lv := w.Level) (by omega) (by omega) (ho.below h8).1 rfl (ho.below h8).2 hr.1 (fun n hn => by have := hr.2.1 n hn; omega) (by omega)]
                simp only [Option.bind_some, Fl.then_go]
                have hbb := below_bd (ho.below h8).2 (d := stepD w m) (fun n hn => by have := hr.2.1 n hn; omega)
                have hbr := below_rising (len := (w.Tree.Levels.getD (w.Level - 1).toNat []).length) hr.1
                have hbl := rising_len (lo := 0) (hi := 4096) hbr hbb (by omega)
                rw [refExts_eq hbr hbb (by omega)]
                simp only [Option.bind_some]
                rw [w64 (n := w.Level - 1) (by omega) (by omega)]
                rw [show (⟨w.Tree, foldX ((belowS (w.Tree.Levels.getD (w.Level - 1).toNat []).length (stepD w m)).map fun n => (n, 1)), w.Level - 1, [], sentD w, false⟩ : api_Walk) = downS w (stepD w m) from rfl]
                rw [refRequest_eq (by have := sep_short (below_sep ho m h8); omega)]
                rfl
          · rw [if_pos (show (!decide ((m.Body.length : Int) = 8 * ((nodesS w.Pending).length : Int))) = true by simp; omega), if_pos (show m.Body.length ≠ 8 * (nodesS w.Pending).length from h7)]; rfl
      · rw [if_pos (show (!decide (m.Kind = 14)) = true by simp [h5]), if_pos (show m.Kind ≠ 14 from h5)]; rfl
  · rw [if_pos (show (!decide (wchkS w = 0)) = true by simp [h1]), if_pos (show wchkS w ≠ 0 from h1)]; rfl
end Go.Proofs.Ytogflgcngfghpaa
end

/- function 10 -/
section
set_option maxHeartbeats 4000000
set_option linter.unusedVariables false
set_option linter.unusedSimpArgs false
namespace Go.Proofs.Ytogflgcngfghpaa
open Go.J
def f_ref11_Few (a0 : api_Tree) : Option (Bool) :=
  (if (decide (12 < (a0.Levels.length : Int))) = true then some true else some (decide (100 < a0.Size))).bind fun c1 => if c1 = true then some false else (whileF (σ := Int) (ρ := Bool) (fun s4 => if (decide (s4 < (a0.Levels.length : Int))) = true then (idx a0.Levels s4).bind fun x12 => if (decide (100 < (x12.length : Int))) = true then some (Rd.ret false) else some (Rd.next (IntKind.i64.wrap (s4 + 1))) else some (Rd.done s4)) bigK 0).bind fun o6 => o6.then fun s4 => some true

theorem c_ref11_Few {a0 : api_Tree} {r : Bool} (h : f_ref11_Few a0 = some r) : Ct Try.prog 10 [r_api_Tree.at a0] [] (fun _ : Unit => Rep.bool.at r) (fun _ => []) := by
  refine Ct.mk Try.func10 rfl Try.ntmps10 (by simp) fun I R => ?_
  refine J.drop0 ?_
  unfold f_ref11_Few at h
  refine J_seq ?_
  refine J_region ?_
  refine JLe0 (T_box (ρ := r_api_Tree) (.mk rfl)) rfl .none ?_
  refine JLp (T_assign rfl) rfl (nofun) .none ?_
  refine JL_nil ?_
  refine KJ_nrm_then (KJ_J ?_)
  refine J_seq ?_
  refine J_seq ?_
  refine J_region ?_
  refine JLp (T_faddri fo24_2 rfl hf_api_Tree_Levels) rfl (nofun) .none ?_
  refine JLp (T_load ty22 rfl) rfl (nofun) .none ?_
  refine JLp (T_len (ρ := (Rep.sl (Rep.int .u64) 1)) sl22 (.mk rfl)) rfl (nofun) .none ?_
  refine JLp (T_gtr rfl rfl) rfl (nofun) .none ?_
  refine JLp (T_move rfl) rfl (nofun) .none ?_
  replace h := bnd h; obtain ⟨c1, hc1, h⟩ := h
  refine JL_at 4 [(1, (Rep.iptr r_api_Tree).at a0), (12, Rep.bool.at c1)] (R) ?_ ?_
  · rcases Bool.eq_false_or_eq_true (decide (12 < (a0.Levels.length : Int))) with hq2 | hq2
    · replace hc1 := ift hq2 hc1
      obtain rfl := inj hc1
      refine JLs rfl rfl hq2 rfl ?_
      refine JLs rfl rfl hq2 rfl ?_
      refine JLs rfl rfl hq2 rfl ?_
      refine JLp (T_pickT rfl hq2 rfl) rfl (nofun) .none ?_
      refine JL_nil ?_
      exact KJ.sub KJ_end (.cons rfl (.cons rfl (.nil _)))
    · replace hc1 := iff_ hq2 hc1
      refine JLp (T_faddri fo24_0 rfl hf_api_Tree_Size) rfl (nofun) (.y rfl rfl hq2) ?_
      refine JLp (T_load ty3 rfl) rfl (nofun) (.y rfl rfl hq2) ?_
      refine JLp (T_gtr rfl rfl) rfl (nofun) (.y rfl rfl hq2) ?_
      obtain rfl := inj hc1
      refine JLp (T_pickF rfl hq2 rfl) rfl (nofun) .none ?_
      refine JL_nil ?_
      exact KJ.sub KJ_end (.cons rfl (.cons rfl (.nil _)))
  refine JL_nil ?_
  refine KJ_nrm_then (KJ_J ?_)
  refine J_test rfl (fun hq3 => ?_) (fun hq3 => ?_)
  · replace h := ift hq3 h
    refine J_seq ?_
    refine J_region ?_
    refine JLp (T_assign rfl) rfl (nofun) .none ?_
    refine JL_nil ?_
    refine KJ_nrm_then (KJ_J ?_)
    refine J_ret ?_
    refine KJ_ret_then ?_
    obtain rfl := inj h
    exact KJ_ret1' Try.results10 (.tmp (.mk rfl) Rv.nil) rfl rfl
  · replace h := iff_ hq3 h
    refine J_skip ?_
    refine KJ_nrm_then (KJ_J ?_)
    refine J_seq ?_
    refine J_seq ?_
    refine J_region ?_
    refine JLp (T_assign rfl) rfl (nofun) .none ?_
    refine JL_nil ?_
    refine KJ_nrm_then (KJ_J ?_)
    replace h := bnd h; obtain ⟨o6, ho7, h⟩ := h
    refine J_cuto o6 (fun (s4 : Int) (g5 : Unit) => []) (fun s4 g5 => R) ?_ ?_
    · refine J_block ?_
      refine J_while ho7 (fun (s4 : Int) (g5 : Unit) => [(1, (Rep.iptr r_api_Tree).at a0), (3, (Rep.int .i64).at s4)]) (fun s4 g5 => R) () (.cons rfl (.cons rfl (.nil _))) rfl ?_
      intro s4 g5 st10 hb8 hf9
      refine J_seq ?_
      refine J_seq ?_
      refine J_region ?_
      refine JLp (T_move rfl) rfl (nofun) .none ?_
      refine JLp (T_faddri fo24_2 rfl hf_api_Tree_Levels) rfl (nofun) .none ?_
      refine JLp (T_load ty22 rfl) rfl (nofun) .none ?_
      refine JLp (T_len (ρ := (Rep.sl (Rep.int .u64) 1)) sl22 (.mk rfl)) rfl (nofun) .none ?_
      refine JLp (T_lss rfl rfl) rfl (nofun) .none ?_
      refine JL_nil ?_
      refine KJ_nrm_then (KJ_J ?_)
      refine J_test rfl (fun hq11 => ?_) (fun hq11 => ?_)
      · replace hb8 := ift hq11 hb8
        refine J_skip ?_
        refine KJ_nrm_then (KJ_J ?_)
        refine J_seq ?_
        refine J_block ?_
        refine J_seq ?_
        refine J_region ?_
        refine JLp (T_faddri fo24_2 rfl hf_api_Tree_Levels) rfl (nofun) .none ?_
        refine JLp (T_load ty22 rfl) rfl (nofun) .none ?_
        refine JLp (T_move rfl) rfl (nofun) .none ?_
        replace hb8 := bnd hb8; obtain ⟨x12, hx12, hb8⟩ := hb8
        refine JLp (T_ix sl22 (.mk rfl) rfl hx12) rfl (nofun) .none ?_
        refine JLp (T_load ty67 rfl) rfl (nofun) .none ?_
        refine JLp (T_len (ρ := (Rep.int .u64)) sl67 (.mk rfl)) rfl (nofun) .none ?_
        refine JLp (T_gtr rfl rfl) rfl (nofun) .none ?_
        refine JL_nil ?_
        refine KJ_nrm_then (KJ_J ?_)
        refine J_test rfl (fun hq13 => ?_) (fun hq13 => ?_)
        · replace hb8 := ift hq13 hb8
          refine J_seq ?_
          refine J_region ?_
          refine JLp (T_assign rfl) rfl (nofun) .none ?_
          refine JL_nil ?_
          refine KJ_nrm_then (KJ_J ?_)
          refine J_ret ?_
          refine KJ_ret_blk ?_
          refine KJ_ret_then ?_
          refine KJ_ret_then ?_
          refine KJ_ret_blk ?_
          refine KJ_ret_kq ?_
          refine KJ_ret_then ?_
          obtain rfl := inj hb8
          have hf9' := hf9
          obtain rfl : o6 = _ := hf9'
          replace h : some _ = some _ := h
          obtain rfl := inj h
          exact KJ_ret1' Try.results10 (.tmp (.mk rfl) Rv.nil) rfl rfl
        · replace hb8 := iff_ hq13 hb8
          refine J_skip ?_
          refine KJ_nrm_blk ?_
          refine KJ_nrm_then (KJ_J ?_)
          refine J_region ?_
          refine JLp (T_move rfl) rfl (nofun) .none ?_
          refine JLp (T_add rfl rfl) rfl (nofun) .none ?_
          refine JLp (T_assign rfl) rfl (nofun) .none ?_
          refine JL_nil ?_
          refine KJ_nrm_then ?_
          exact KJ_nx (IntKind.i64.wrap (s4 + 1)) () (inj hb8) (.cons rfl (.cons rfl (.nil _))) rfl
      · replace hb8 := iff_ hq11 hb8
        refine J_exit ?_
        refine KJ_exit_then ?_
        refine KJ_exit_then ?_
        refine KJ_exit_here ?_
        refine KJ_nrm_kq ?_
        obtain rfl := inj hb8
        exact KJ_ot s4 () hf9 (.nil _) rfl
    · intro s4 g5 hs
      subst hs
      replace h := thn h
      refine KJ_nrm_then (KJ_J ?_)
      refine J_seq ?_
      refine J_region ?_
      refine JLp (T_assign rfl) rfl (nofun) .none ?_
      refine JL_nil ?_
      refine KJ_nrm_then (KJ_J ?_)
      refine J_ret ?_
      obtain rfl := inj h
      exact KJ_ret1' Try.results10 (.tmp (.mk rfl) Rv.nil) rfl rfl
end Go.Proofs.Ytogflgcngfghpaa
end

/- function 11 -/
section
set_option maxHeartbeats 4000000
set_option linter.unusedVariables false
set_option linter.unusedSimpArgs false
namespace Go.Proofs.Ytogflgcngfghpaa
open Go.J
def f_ref44_FewMessage (a0 : api_Message) : Option (Bool) :=
  (if (decide ((a0.Values.length : Int) ≤ 200)) = true then some (decide ((a0.Body.length : Int) ≤ 2000)) else some false).bind fun c1 => some c1

theorem c_ref44_FewMessage {a0 : api_Message} {r : Bool} (h : f_ref44_FewMessage a0 = some r) : Ct Try.prog 11 [r_api_Message.at a0] [] (fun _ : Unit => Rep.bool.at r) (fun _ => []) := by
  refine Ct.mk Try.func11 rfl Try.ntmps11 (by simp) fun I R => ?_
  refine J.drop0 ?_
  unfold f_ref44_FewMessage at h
  refine J_seq ?_
  refine J_region ?_
  refine JLe0 (T_box (ρ := r_api_Message) (.mk rfl)) rfl .none ?_
  refine JLp (T_assign rfl) rfl (nofun) .none ?_
  refine JL_nil ?_
  refine KJ_nrm_then (KJ_J ?_)
  refine J_seq ?_
  refine J_region ?_
  refine JLp (T_faddri fo28_6 rfl hf_api_Message_Values) rfl (nofun) .none ?_
  refine JLp (T_load ty25 rfl) rfl (nofun) .none ?_
  refine JLp (T_len (ρ := (Rep.int .i64)) sl25 (.mk rfl)) rfl (nofun) .none ?_
  refine JLp (T_leq rfl rfl) rfl (nofun) .none ?_
  refine JLp (T_move rfl) rfl (nofun) .none ?_
  replace h := bnd h; obtain ⟨c1, hc1, h⟩ := h
  refine JL_at 5 [(2, Rep.bool.at false), (12, Rep.bool.at c1)] (R) ?_ ?_
  · rcases Bool.eq_false_or_eq_true (decide ((a0.Values.length : Int) ≤ 200)) with hq2 | hq2
    · replace hc1 := ift hq2 hc1
      refine JLp (T_faddri fo28_7 rfl hf_api_Message_Body) rfl (nofun) (.y rfl rfl hq2) ?_
      refine JLp (T_load ty26 rfl) rfl (nofun) (.y rfl rfl hq2) ?_
      refine JLp (T_len (ρ := (Rep.int .u8)) sl26 (.mk rfl)) rfl (nofun) (.y rfl rfl hq2) ?_
      refine JLp (T_leq rfl rfl) rfl (nofun) (.y rfl rfl hq2) ?_
      obtain rfl := inj hc1
      refine JLp (T_pickT rfl hq2 rfl) rfl (nofun) .none ?_
      refine JL_nil ?_
      exact KJ.sub KJ_end (.cons rfl (.cons rfl (.nil _)))
    · replace hc1 := iff_ hq2 hc1
      obtain rfl := inj hc1
      refine JLs rfl rfl hq2 rfl ?_
      refine JLs rfl rfl hq2 rfl ?_
      refine JLs rfl rfl hq2 rfl ?_
      refine JLs rfl rfl hq2 rfl ?_
      refine JLp (T_pickF rfl hq2 rfl) rfl (nofun) .none ?_
      refine JL_nil ?_
      exact KJ.sub KJ_end (.cons rfl (.cons rfl (.nil _)))
  refine JLp (T_assign rfl) rfl (nofun) .none ?_
  refine JL_nil ?_
  refine KJ_nrm_then (KJ_J ?_)
  refine J_ret ?_
  obtain rfl := inj h
  exact KJ_ret1' Try.results11 (.tmp (.mk rfl) Rv.nil) rfl rfl
end Go.Proofs.Ytogflgcngfghpaa
end

/- function 27 -/
section
set_option maxHeartbeats 4000000
set_option linter.unusedVariables false
set_option linter.unusedSimpArgs false
namespace Go.Proofs.Ytogflgcngfghpaa
open Go.J
def f_compare_Begin (a0 : api_Tree) : Option (api_Walk × List api_Message × Int) :=
  (f_hashtree_Check a0).bind fun x2 => if (!decide (x2 = 0)) = true then some ((⟨(⟨0, 0, []⟩ : api_Tree), [], 0, [], 0, false⟩ : api_Walk), [], x2) else (f_compare_copied a0).bind fun x4 => (f_compare_walk_request (⟨(⟨x4, [(⟨0, 1⟩ : api_Extent)], IntKind.i64.wrap ((a0.Levels.length : Int) - 1), [], 0, false⟩ : api_Walk)⟩ : compare_walk)).bind fun x6 => some ((⟨x4, [(⟨0, 1⟩ : api_Extent)], IntKind.i64.wrap ((a0.Levels.length : Int) - 1), [], 0, false⟩ : api_Walk), [x6], 0)

theorem c_compare_Begin {a0 : api_Tree} {r : api_Walk × List api_Message × Int} (h : f_compare_Begin a0 = some r) : Ct Try.prog 27 [r_api_Tree.at a0] [] (fun _ : Unit => Pr.tup [r_api_Walk.at r.1, (Rep.sl r_api_Message 8).at r.2.1, (Rep.int .i64).at r.2.2]) (fun _ => []) := by
  refine Ct.mk Try.func27 rfl Try.ntmps27 (by simp) fun I R => ?_
  refine J.drop0 ?_
  unfold f_compare_Begin at h
  refine J_seq ?_
  refine J_region ?_
  refine JLe0 (T_box (ρ := r_api_Tree) (.mk rfl)) rfl .none ?_
  refine JLa (T_alloc z41 lay_api_Walk) rfl .none fun b1 => ?_
  refine JLp (T_assign rfl) rfl (nofun) .none ?_
  refine JLp (T_assign rfl) rfl (nofun) .none ?_
  refine JL_nil ?_
  refine KJ_nrm_then (KJ_J ?_)
  refine J_seq ?_
  refine J_seq ?_
  refine J_region ?_
  refine JLp (T_load ty24 rfl) rfl (nofun) .none ?_
  replace h := bnd h; obtain ⟨x2, hx2, h⟩ := h
  refine JLe0 (T_call ⟨_, Try.func32, rfl, rfl⟩ (c_hashtree_Check hx2) ⟨(.mk rfl), trivial⟩) rfl .none ?_
  refine JLp (T_assign rfl) rfl (nofun) .none ?_
  refine JL_nil ?_
  refine KJ_nrm_then (KJ_J ?_)
  refine J_seq ?_
  refine J_region ?_
  refine JLp (T_move rfl) rfl (nofun) .none ?_
  refine JLp (T_neq rfl rfl) rfl (nofun) .none ?_
  refine JL_nil ?_
  refine KJ_nrm_then (KJ_J ?_)
  refine J_test rfl (fun hq3 => ?_) (fun hq3 => ?_)
  · replace h := ift hq3 h
    refine J_seq ?_
    refine J_region ?_
    refine JLp (T_build (s' := (⟨(⟨0, 0, []⟩ : api_Tree), [], 0, [], 0, false⟩ : api_Walk)) bd41 z41 lay_api_Walk .nil) rfl (nofun) .none ?_
    refine JLp (T_move rfl) rfl (nofun) .none ?_
    refine JLn1 (T_store ty41 rfl (.mk rfl) (SetF.self lay_api_Walk)) .none ?_
    refine JLp (T_assign rfl) rfl (nofun) .none ?_
    refine JLp (T_assign rfl) rfl (nofun) .none ?_
    refine JL_nil ?_
    refine KJ_nrm_then (KJ_J ?_)
    refine J_ret ?_
    refine KJ_ret_then ?_
    obtain rfl := inj h
    exact KJ_retnc () [Ent.box b1 r_api_Walk (⟨(⟨0, 0, []⟩ : api_Tree), [], 0, [], 0, false⟩ : api_Walk)] rfl Try.results27 (.cell ty41 rfl (by simp) (.tmp (.nilc rfl) (.tmp (.mk rfl) Rv.nil))) rfl (by simp) rfl
  · replace h := iff_ hq3 h
    refine J_skip ?_
    refine KJ_nrm_then (KJ_J ?_)
    refine J_seq ?_
    replace h := bnd h; obtain ⟨x4, hx4, h⟩ := h
    refine J_drawR (Ks := []) rfl (by kernel_rfl) fun K hK => ?_
    refine DR.p (.base (t := 1) rfl .nil) (T_load ty24 rfl) .none rfl rfl (nofun) ?_
    refine DR.e (.dep 0 0 rfl rfl rfl .nil) (T_call ⟨_, Try.func43, rfl, rfl⟩ (c_compare_copied hx4) ⟨(.mk rfl), trivial⟩) .none rfl rfl ?_
    refine DR.p (.base (t := 1) rfl .nil) (T_faddri fo24_2 rfl hf_api_Tree_Levels) .none rfl rfl (nofun) ?_
    refine DR.p (.dep 2 0 rfl rfl rfl .nil) (T_load ty22 rfl) .none rfl rfl (nofun) ?_
    refine DR.p (.dep 3 0 rfl rfl rfl .nil) (T_len (ρ := (Rep.sl (Rep.int .u64) 1)) sl22 (.mk rfl)) .none rfl rfl (nofun) ?_
    refine DR.p (.dep 4 0 rfl rfl rfl .nil) (T_sub rfl rfl) .none rfl rfl (nofun) ?_
    refine DR.p .nil (T_build (s' := (⟨0, 1⟩ : api_Extent)) bd62 z62 lay_api_Extent (.cons (π := (Rep.int .i64)) (.mk rfl) rfl (Lay.int _) sf_api_Extent_Start (.cons (π := (Rep.int .i64)) (.mk rfl) rfl (Lay.int _) sf_api_Extent_Count .nil))) .none rfl rfl (nofun) ?_
    refine DR.e (.dep 6 0 rfl rfl rfl .nil) (T_bslice (ρ := r_api_Extent) sl39 lay_api_Extent (.cons (.mk rfl) .nil) rfl (by decide)) .none rfl rfl ?_
    refine DR.tail (by kernel_rfl) (.refl _) rfl ?_
    simp only [List.reverse_cons, List.reverse_nil, List.nil_append, List.cons_append, DT]
    refine JLp (T_build (s' := (⟨x4, [(⟨0, 1⟩ : api_Extent)], IntKind.i64.wrap ((a0.Levels.length : Int) - 1), [], 0, false⟩ : api_Walk)) bd41 z41 lay_api_Walk (.cons (π := r_api_Tree) (.mk rfl) rfl lay_api_Tree sf_api_Walk_Tree (.cons (π := (Rep.int .i64)) (.mk rfl) rfl (Lay.int _) sf_api_Walk_Level (.cons (π := (Rep.sl r_api_Extent 2)) (.mk rfl) rfl (Lay.sl _ _) sf_api_Walk_Pending .nil)))) rfl (nofun) .none ?_
    refine JLp (T_build (s' := (⟨(⟨x4, [(⟨0, 1⟩ : api_Extent)], IntKind.i64.wrap ((a0.Levels.length : Int) - 1), [], 0, false⟩ : api_Walk)⟩ : compare_walk)) bd98 z98 lay_compare_walk (.cons (π := r_api_Walk) (.mk rfl) rfl lay_api_Walk sf_compare_walk_Walk .nil)) rfl (nofun) .none ?_
    refine JLa (T_boxm (.mk rfl) lay_compare_walk) rfl .none fun b5 => ?_
    refine JLp (T_assign rfl) rfl (nofun) .none ?_
    refine JL_nil (KJ_hid hK ?_)
    refine KJ_nrm_then (KJ_J ?_)
    refine J_seq ?_
    refine J.perm F1 ?_
    replace h := bnd h; obtain ⟨x6, hx6, h⟩ := h
    refine J_drawR (Ks := [Ent.box b1 r_api_Walk (⟨(⟨0, 0, []⟩ : api_Tree), [], 0, [], 0, false⟩ : api_Walk)]) rfl (by kernel_rfl) fun K hK => ?_
    refine DR.p (.base (t := 6) rfl .nil) (T_move rfl) .none rfl rfl (nofun) ?_
    refine DR.p (.dep 0 0 rfl rfl rfl .nil) (T_nilchk rfl) .none rfl rfl (nofun) ?_
    refine DR.p (.dep 1 0 rfl rfl rfl .nil) (T_faddr fo98_0 rfl) .none rfl rfl (nofun) ?_
    refine DR.p (.dep 2 0 rfl rfl rfl .nil) (T_loadb ty41 rfl hf_compare_walk_Walk) .none rfl rfl B0 ?_
    refine DR.p (.base (t := 6) rfl .nil) (T_move rfl) .none rfl rfl (nofun) ?_
    refine DR.b (.dep 4 0 rfl rfl rfl .nil) (T_call ⟨_, Try.func44, rfl, rfl⟩ (c_compare_walk_request hx6) ⟨.mk rfl, trivial⟩) .none rfl rfl B0 ?_
    refine DR.e (.dep 5 0 rfl rfl rfl .nil) (T_bslice (ρ := r_api_Message) sl43 lay_api_Message (.cons (.mk rfl) .nil) rfl (by decide)) .none rfl rfl ?_
    refine DR.w (κ := [Ent.box b1 r_api_Walk (⟨(⟨0, 0, []⟩ : api_Tree), [], 0, [], 0, false⟩ : api_Walk)]) (ε := [Ent.box b1 r_api_Walk (⟨x4, [(⟨0, 1⟩ : api_Extent)], IntKind.i64.wrap ((a0.Levels.length : Int) - 1), [], 0, false⟩ : api_Walk)]) (.base (t := 2) rfl (.dep 3 3 rfl rfl rfl .nil)) (T_store ty41 rfl (.mk rfl) (SetF.self lay_api_Walk)) .none ?_
    refine DR.tail (by kernel_rfl) (.refl _) rfl ?_
    simp only [List.reverse_cons, List.reverse_nil, List.nil_append, List.cons_append, DT]
    refine JLp (T_assign rfl) rfl (nofun) .none ?_
    refine JLp (T_assign rfl) rfl (nofun) .none ?_
    refine JL_nil (KJ_hid hK ?_)
    refine KJ_nrm_then (KJ_J ?_)
    refine J_ret ?_
    obtain rfl := inj h
    exact KJ_retnc () [Ent.box b1 r_api_Walk (⟨x4, [(⟨0, 1⟩ : api_Extent)], IntKind.i64.wrap ((a0.Levels.length : Int) - 1), [], 0, false⟩ : api_Walk), Ent.box b5 r_compare_walk (⟨(⟨x4, [(⟨0, 1⟩ : api_Extent)], IntKind.i64.wrap ((a0.Levels.length : Int) - 1), [], 0, false⟩ : api_Walk)⟩ : compare_walk)] rfl Try.results27 (.cell ty41 rfl (by simp) (.tmp (.mk rfl) (.tmp (.mk rfl) Rv.nil))) rfl (by simp) rfl
end Go.Proofs.Ytogflgcngfghpaa
end

/- function 21 -/
section
set_option maxHeartbeats 4000000
set_option linter.unusedVariables false
set_option linter.unusedSimpArgs false
namespace Go.Proofs.Ytogflgcngfghpaa
open Go.J
def f_compare_Run (a0 : api_Tree) (a1 : api_Tree) : Option (List api_Extent × Int × Int) :=
  (f_compare_Begin a0).bind fun x1 => ((if (decide (x1.2.2 = 0)) = true then (f_hashtree_Check a1).bind fun x8 => some (Fl.go x8) else some (Fl.go x1.2.2) : Option (Fl (Int) (List api_Extent × Int × Int)))).bind fun o4 => o4.then fun s6 => (if (decide (s6 = 0)) = true then (if (!decide (a0.Size = a1.Size)) = true then some true else some (!decide (a0.Leaf = a1.Leaf))).bind fun c11 => some c11 else some false).bind fun c9 => ((if c9 = true then some (Fl.go 22) else some (Fl.go s6) : Option (Fl (Int) (List api_Extent × Int × Int)))).bind fun o14 => o14.then fun s16 => (whileF (σ := List api_Message × Int × api_Walk) (ρ := List api_Extent × Int × Int) (fun s18 => (if (decide (s18.2.1 = 0)) = true then some (decide (0 < (s18.1.length : Int))) else some false).bind fun c25 => if c25 = true then (idx s18.1 0).bind fun x29 => (f_compare_Answer a1 x29).bind fun x30 => ((if (decide (x30.2 = 0)) = true then (f_compare_Learn s18.2.2 x30.1).bind fun x36 => some (Fl.go (x36.2.1, x36.2.2, x36.1)) else some (Fl.go (s18.1, x30.2, s18.2.2)) : Option (Fl (List api_Message × Int × api_Walk) (Rd (List api_Message × Int × api_Walk) (List api_Extent × Int × Int))))).bind fun o32 => o32.then fun s34 => some (Rd.next (s34.1, s34.2.1, s34.2.2)) else some (Rd.done (s18.1, s18.2.1, s18.2.2))) bigK (x1.2.1, s16, x1.1)).bind fun o20 => o20.then fun s18 => if (!decide (s18.2.1 = 0)) = true then some ([], 0, s18.2.1) else some (s18.2.2.Found, s18.2.2.Sent, 0)

theorem c_compare_Run {a0 : api_Tree} {a1 : api_Tree} {r : List api_Extent × Int × Int} (h : f_compare_Run a0 a1 = some r) : Ct Try.prog 21 [r_api_Tree.at a0, r_api_Tree.at a1] [] (fun _ : Unit => Pr.tup [(Rep.sl r_api_Extent 2).at r.1, (Rep.int .i64).at r.2.1, (Rep.int .i64).at r.2.2]) (fun _ => []) := by
  refine Ct.mk Try.func21 rfl Try.ntmps21 (by simp) fun I R => ?_
  refine J.drop0 ?_
  unfold f_compare_Run at h
  refine J_seq ?_
  refine J_region ?_
  refine JLe0 (T_box (ρ := r_api_Tree) (.mk rfl)) rfl .none ?_
  refine JLe0 (T_box (ρ := r_api_Tree) (.mk rfl)) rfl .none ?_
  refine JLp (T_assign rfl) rfl (nofun) .none ?_
  refine JLp (T_assign rfl) rfl (nofun) .none ?_
  refine JLp (T_assign rfl) rfl (nofun) .none ?_
  refine JL_nil ?_
  refine KJ_nrm_then (KJ_J ?_)
  refine J_seq ?_
  refine J_region ?_
  refine JLp (T_load ty24 rfl) rfl (nofun) .none ?_
  replace h := bnd h; obtain ⟨x1, hx1, h⟩ := h
  refine JLe0 (T_call ⟨_, Try.func27, rfl, rfl⟩ (c_compare_Begin hx1) ⟨(.mk rfl), trivial⟩) rfl .none ?_
  refine JLp (T_move rfl) rfl (nofun) .none ?_
  refine JLp (T_extract rfl rfl) rfl (nofun) .none ?_
  refine JLp (T_extract rfl rfl) rfl (nofun) .none ?_
  refine JLp (T_extract rfl rfl) rfl (nofun) .none ?_
  refine JLa (T_alloc z41 lay_api_Walk) rfl .none fun b2 => ?_
  refine JLn1 (T_store ty41 rfl (.mk rfl) (SetF.self lay_api_Walk)) .none ?_
  refine JLp (T_assign rfl) rfl (nofun) .none ?_
  refine JLp (T_assign rfl) rfl (nofun) .none ?_
  refine JL_nil ?_
  refine KJ_nrm_then (KJ_J ?_)
  refine J_seq ?_
  refine J_seq ?_
  refine J_region ?_
  refine JLp (T_move rfl) rfl (nofun) .none ?_
  refine JLp (T_eql rfl rfl) rfl (nofun) .none ?_
  refine JL_nil ?_
  refine KJ_nrm_then (KJ_J ?_)
  replace h := bnd h; obtain ⟨o4, ho5, h⟩ := h
  refine J_cuto o4 (fun (s6 : Int) (g7 : Unit) => [(2, (Rep.iptr r_api_Tree).at a0), (3, (Rep.iptr r_api_Tree).at a1), (7, Rep.ptr.at (b2, 0)), (8, (Rep.sl r_api_Message 8).at x1.2.1), (9, (Rep.int .i64).at s6)]) (fun s6 g7 => Ent.box b2 r_api_Walk x1.1 :: R) ?_ ?_
  · refine J_test rfl (fun hq3 => ?_) (fun hq3 => ?_)
    · replace ho5 := ift hq3 ho5
      refine J_region ?_
      refine JLp (T_load ty24 rfl) rfl (nofun) .none ?_
      replace ho5 := bnd ho5; obtain ⟨x8, hx8, ho5⟩ := ho5
      refine JLe0 (T_call ⟨_, Try.func32, rfl, rfl⟩ (c_hashtree_Check hx8) ⟨(.mk rfl), trivial⟩) rfl .none ?_
      refine JLp (T_assign rfl) rfl (nofun) .none ?_
      refine JL_nil ?_
      refine KJ_nrm_kq ?_
      exact KJ_ot x8 () (inj ho5) (.cons rfl (.cons rfl (.cons rfl (.cons rfl (.cons rfl (.nil _)))))) rfl
    · replace ho5 := iff_ hq3 ho5
      refine J_skip ?_
      refine KJ_nrm_kq ?_
      exact KJ_ot x1.2.2 () (inj ho5) (.cons rfl (.cons rfl (.cons rfl (.cons rfl (.cons rfl (.nil _)))))) rfl
  · intro s6 g7 hs
    subst hs
    replace h := thn h
    refine KJ_nrm_then (KJ_J ?_)
    refine J_seq ?_
    refine J_seq ?_
    refine J_region ?_
    refine JLp (T_move rfl) rfl (nofun) .none ?_
    refine JLp (T_eql rfl rfl) rfl (nofun) .none ?_
    refine JLp (T_move rfl) rfl (nofun) .none ?_
    replace h := bnd h; obtain ⟨c9, hc9, h⟩ := h
    refine JL_at 13 [(3, (Rep.iptr r_api_Tree).at a1), (7, Rep.ptr.at (b2, 0)), (8, (Rep.sl r_api_Message 8).at x1.2.1), (9, (Rep.int .i64).at s6), (36, Rep.bool.at c9)] (Ent.box b2 r_api_Walk x1.1 :: R) ?_ ?_
    · rcases Bool.eq_false_or_eq_true (decide (s6 = 0)) with hq10 | hq10
      · replace hc9 := ift hq10 hc9
        refine JLp (T_faddri fo24_0 rfl hf_api_Tree_Size) rfl (nofun) (.y rfl rfl hq10) ?_
        refine JLp (T_load ty3 rfl) rfl (nofun) (.y rfl rfl hq10) ?_
        refine JLp (T_faddri fo24_0 rfl hf_api_Tree_Size) rfl (nofun) (.y rfl rfl hq10) ?_
        refine JLp (T_load ty3 rfl) rfl (nofun) (.y rfl rfl hq10) ?_
        refine JLp (T_neq rfl rfl) rfl (nofun) (.y rfl rfl hq10) ?_
        refine JLp (T_move rfl) rfl (nofun) (.y rfl rfl hq10) ?_
        replace hc9 := bnd hc9; obtain ⟨c11, hc11, hc9⟩ := hc9
        refine JL_at 6 [(3, (Rep.iptr r_api_Tree).at a1), (7, Rep.ptr.at (b2, 0)), (8, (Rep.sl r_api_Message 8).at x1.2.1), (9, (Rep.int .i64).at s6), (23, Rep.bool.at (decide (s6 = 0))), (35, Rep.bool.at c11)] (Ent.box b2 r_api_Walk x1.1 :: R) ?_ ?_
        · rcases Bool.eq_false_or_eq_true (!decide (a0.Size = a1.Size)) with hq12 | hq12
          · replace hc11 := ift hq12 hc11
            obtain rfl := inj hc11
            refine JLs rfl rfl hq12 rfl ?_
            refine JLs rfl rfl hq12 rfl ?_
            refine JLs rfl rfl hq12 rfl ?_
            refine JLs rfl rfl hq12 rfl ?_
            refine JLs rfl rfl hq12 rfl ?_
            refine JLp (T_pickT rfl hq12 rfl) rfl (nofun) (.y rfl rfl hq10) ?_
            refine JL_nil ?_
            exact KJ.sub KJ_end (.cons rfl (.cons rfl (.cons rfl (.cons rfl (.cons rfl (.cons rfl (.nil _)))))))
          · replace hc11 := iff_ hq12 hc11
            refine JLp (T_faddri fo24_1 rfl hf_api_Tree_Leaf) rfl (nofun) (.y rfl rfl hq12) ?_
            refine JLp (T_load ty3 rfl) rfl (nofun) (.y rfl rfl hq12) ?_
            refine JLp (T_faddri fo24_1 rfl hf_api_Tree_Leaf) rfl (nofun) (.y rfl rfl hq12) ?_
            refine JLp (T_load ty3 rfl) rfl (nofun) (.y rfl rfl hq12) ?_
            refine JLp (T_neq rfl rfl) rfl (nofun) (.y rfl rfl hq12) ?_
            obtain rfl := inj hc11
            refine JLp (T_pickF rfl hq12 rfl) rfl (nofun) (.y rfl rfl hq10) ?_
            refine JL_nil ?_
            exact KJ.sub KJ_end (.cons rfl (.cons rfl (.cons rfl (.cons rfl (.cons rfl (.cons rfl (.nil _)))))))
        obtain rfl := inj hc9
        refine JLp (T_pickT rfl hq10 rfl) rfl (nofun) .none ?_
        refine JL_nil ?_
        exact KJ.sub KJ_end (.cons rfl (.cons rfl (.cons rfl (.cons rfl (.cons rfl (.nil _))))))
      · replace hc9 := iff_ hq10 hc9
        obtain rfl := inj hc9
        refine JLs rfl rfl hq10 rfl ?_
        refine JLs rfl rfl hq10 rfl ?_
        refine JLs rfl rfl hq10 rfl ?_
        refine JLs rfl rfl hq10 rfl ?_
        refine JLs rfl rfl hq10 rfl ?_
        refine JLs rfl rfl hq10 rfl ?_
        refine JLu rfl rfl rfl ?_
        refine JLu rfl rfl rfl ?_
        refine JLu rfl rfl rfl ?_
        refine JLu rfl rfl rfl ?_
        refine JLu rfl rfl rfl ?_
        refine JLs rfl rfl hq10 rfl ?_
        refine JLp (T_pickF rfl hq10 rfl) rfl (nofun) .none ?_
        refine JL_nil ?_
        exact KJ.sub KJ_end (.cons rfl (.cons rfl (.cons rfl (.cons rfl (.cons rfl (.nil _))))))
    refine JL_nil ?_
    refine KJ_nrm_then (KJ_J ?_)
    replace h := bnd h; obtain ⟨o14, ho15, h⟩ := h
    refine J_cuto o14 (fun (s16 : Int) (g17 : Unit) => [(3, (Rep.iptr r_api_Tree).at a1), (7, Rep.ptr.at (b2, 0)), (8, (Rep.sl r_api_Message 8).at x1.2.1), (9, (Rep.int .i64).at s16)]) (fun s16 g17 => Ent.box b2 r_api_Walk x1.1 :: R) ?_ ?_
    · refine J_test rfl (fun hq13 => ?_) (fun hq13 => ?_)
      · replace ho15 := ift hq13 ho15
        refine J_region ?_
        refine JLp (T_assign rfl) rfl (nofun) .none ?_
        refine JL_nil ?_
        refine KJ_nrm_kq ?_
        exact KJ_ot 22 () (inj ho15) (.cons rfl (.cons rfl (.cons rfl (.cons rfl (.nil _))))) rfl
      · replace ho15 := iff_ hq13 ho15
        refine J_skip ?_
        refine KJ_nrm_kq ?_
        exact KJ_ot s6 () (inj ho15) (.cons rfl (.cons rfl (.cons rfl (.cons rfl (.nil _))))) rfl
    · intro s16 g17 hs
      subst hs
      replace h := thn h
      refine KJ_nrm_then (KJ_J ?_)
      refine J_seq ?_
      replace h := bnd h; obtain ⟨o20, ho21, h⟩ := h
      refine J_cuto o20 (fun (s18 : List api_Message × Int × api_Walk) (g19 : Unit) => [(7, Rep.ptr.at (b2, 0)), (9, (Rep.int .i64).at s18.2.1)]) (fun s18 g19 => Ent.box b2 r_api_Walk s18.2.2 :: R) ?_ ?_
      · refine J_block ?_
        refine J_while ho21 (fun (s18 : List api_Message × Int × api_Walk) (g19 : Unit) => [(3, (Rep.iptr r_api_Tree).at a1), (7, Rep.ptr.at (b2, 0)), (8, (Rep.sl r_api_Message 8).at s18.1), (9, (Rep.int .i64).at s18.2.1)]) (fun s18 g19 => Ent.box b2 r_api_Walk s18.2.2 :: R) () (.cons rfl (.cons rfl (.cons rfl (.cons rfl (.nil _))))) rfl ?_
        intro s18 g19 st24 hb22 hf23
        refine J_seq ?_
        refine J_seq ?_
        refine J_region ?_
        refine JLp (T_move rfl) rfl (nofun) .none ?_
        refine JLp (T_eql rfl rfl) rfl (nofun) .none ?_
        refine JLp (T_move rfl) rfl (nofun) .none ?_
        replace hb22 := bnd hb22; obtain ⟨c25, hc25, hb22⟩ := hb22
        refine JL_at 4 [(3, (Rep.iptr r_api_Tree).at a1), (7, Rep.ptr.at (b2, 0)), (8, (Rep.sl r_api_Message 8).at s18.1), (9, (Rep.int .i64).at s18.2.1), (43, Rep.bool.at c25)] (Ent.box b2 r_api_Walk s18.2.2 :: R) ?_ ?_
        · rcases Bool.eq_false_or_eq_true (decide (s18.2.1 = 0)) with hq26 | hq26
          · replace hc25 := ift hq26 hc25
            refine JLp (T_move rfl) rfl (nofun) (.y rfl rfl hq26) ?_
            refine JLp (T_len (ρ := r_api_Message) sl43 (.mk rfl)) rfl (nofun) (.y rfl rfl hq26) ?_
            refine JLp (T_gtr rfl rfl) rfl (nofun) (.y rfl rfl hq26) ?_
            obtain rfl := inj hc25
            refine JLp (T_pickT rfl hq26 rfl) rfl (nofun) .none ?_
            refine JL_nil ?_
            exact KJ.sub KJ_end (.cons rfl (.cons rfl (.cons rfl (.cons rfl (.cons rfl (.nil _))))))
          · replace hc25 := iff_ hq26 hc25
            obtain rfl := inj hc25
            refine JLs rfl rfl hq26 rfl ?_
            refine JLs rfl rfl hq26 rfl ?_
            refine JLs rfl rfl hq26 rfl ?_
            refine JLp (T_pickF rfl hq26 rfl) rfl (nofun) .none ?_
            refine JL_nil ?_
            exact KJ.sub KJ_end (.cons rfl (.cons rfl (.cons rfl (.cons rfl (.cons rfl (.nil _))))))
        refine JL_nil ?_
        refine KJ_nrm_then (KJ_J ?_)
        refine J_test rfl (fun hq27 => ?_) (fun hq27 => ?_)
        · replace hb22 := ift hq27 hb22
          refine J_skip ?_
          refine KJ_nrm_then (KJ_J ?_)
          refine J_block ?_
          refine J_seq ?_
          refine J_region ?_
          refine JLa (T_alloc z28 lay_api_Message) rfl .none fun b28 => ?_
          refine JL_nil ?_
          refine KJ_nrm_then (KJ_J ?_)
          refine J_seq ?_
          replace hb22 := bnd hb22; obtain ⟨x29, hx29, hb22⟩ := hb22
          replace hb22 := bnd hb22; obtain ⟨x30, hx30, hb22⟩ := hb22
          refine J_drawR (Ks := [Ent.box b28 r_api_Message (⟨0, 0, 0, 0, 0, 0, [], []⟩ : api_Message)]) rfl (by kernel_rfl) fun K hK => ?_
          refine DR.p (.base (t := 3) rfl .nil) (T_load ty24 rfl) .none rfl rfl (nofun) ?_
          refine DR.p (.base (t := 8) rfl .nil) (T_move rfl) .none rfl rfl (nofun) ?_
          refine DR.p (.dep 1 0 rfl rfl rfl .nil) (T_ix sl43 (.mk rfl) rfl hx29) .none rfl rfl (nofun) ?_
          refine DR.p (.dep 2 0 rfl rfl rfl .nil) (T_load ty28 rfl) .none rfl rfl (nofun) ?_
          refine DR.e (.dep 0 3 rfl rfl rfl (.dep 3 0 rfl rfl rfl .nil)) (T_call ⟨_, Try.func13, rfl, rfl⟩ (c_compare_Answer hx30) ⟨(.mk rfl), ⟨(.mk rfl), trivial⟩⟩) .none rfl rfl ?_
          refine DR.p (.dep 4 0 rfl rfl rfl .nil) (T_move rfl) .none rfl rfl (nofun) ?_
          refine DR.p (.dep 5 0 rfl rfl rfl .nil) (T_extract rfl rfl) .none rfl rfl (nofun) ?_
          refine DR.p (.dep 5 1 rfl rfl rfl .nil) (T_extract rfl rfl) .none rfl rfl (nofun) ?_
          refine DR.w (κ := [Ent.box b28 r_api_Message (⟨0, 0, 0, 0, 0, 0, [], []⟩ : api_Message)]) (ε := [Ent.box b28 r_api_Message x30.1]) (.base (t := 10) rfl (.dep 6 1 rfl rfl rfl .nil)) (T_store ty28 rfl (.mk rfl) (SetF.self lay_api_Message)) .none ?_
          refine DR.tail (by kernel_rfl) (.refl _) rfl ?_
          simp only [List.reverse_cons, List.reverse_nil, List.nil_append, List.cons_append, DT]
          refine JLp (T_assign rfl) rfl (nofun) .none ?_
          refine JL_nil (KJ_hid hK ?_)
          refine KJ_nrm_then (KJ_J ?_)
          refine J_seq ?_
          refine J_region ?_
          refine JLp (T_move rfl) rfl (nofun) .none ?_
          refine JLp (T_eql rfl rfl) rfl (nofun) .none ?_
          refine JL_nil ?_
          refine KJ_nrm_then (KJ_J ?_)
          replace hb22 := bnd hb22; obtain ⟨o32, ho33, hb22⟩ := hb22
          refine J_cuto o32 (fun (s34 : List api_Message × Int × api_Walk) (g35 : Unit) => [(3, (Rep.iptr r_api_Tree).at a1), (7, Rep.ptr.at (b2, 0)), (8, (Rep.sl r_api_Message 8).at s34.1), (9, (Rep.int .i64).at s34.2.1)]) (fun s34 g35 => Ent.box b28 r_api_Message x30.1 :: Ent.box b2 r_api_Walk s34.2.2 :: R) ?_ ?_
          · refine J_test rfl (fun hq31 => ?_) (fun hq31 => ?_)
            · replace ho33 := ift hq31 ho33
              refine J_region ?_
              refine JLp (T_loadw ty41 rfl) rfl B1 .none ?_
              refine JLp (T_loadw ty28 rfl) rfl B0 .none ?_
              replace ho33 := bnd ho33; obtain ⟨x36, hx36, ho33⟩ := ho33
              refine JLe0 (T_call ⟨_, Try.func17, rfl, rfl⟩ (c_compare_Learn hx36) ⟨(.mk rfl), ⟨(.mk rfl), trivial⟩⟩) rfl .none ?_
              refine JLp (T_move rfl) rfl (nofun) .none ?_
              refine JLp (T_extract rfl rfl) rfl (nofun) .none ?_
              refine JLp (T_extract rfl rfl) rfl (nofun) .none ?_
              refine JLp (T_extract rfl rfl) rfl (nofun) .none ?_
              refine JL.perm F1 ?_
              refine JLn1 (T_store ty41 rfl (.mk rfl) (SetF.self lay_api_Walk)) .none ?_
              refine JLp (T_assign rfl) rfl (nofun) .none ?_
              refine JLp (T_assign rfl) rfl (nofun) .none ?_
              refine JL_nil ?_
              refine KJ_nrm_kq ?_
              refine KJ.perm F1 ?_
              exact KJ_ot (x36.2.1, x36.2.2, x36.1) () (inj ho33) (.cons rfl (.cons rfl (.cons rfl (.cons rfl (.nil _))))) rfl
            · replace ho33 := iff_ hq31 ho33
              refine J_skip ?_
              refine KJ_nrm_kq ?_
              exact KJ_ot (s18.1, x30.2, s18.2.2) () (inj ho33) (.cons rfl (.cons rfl (.cons rfl (.cons rfl (.nil _))))) rfl
          · intro s34 g35 hs
            subst hs
            replace hb22 := thn hb22
            refine KJ_nrm_blk ?_
            refine KJ_nrm_then ?_
            refine KJ.drop1 ?_
            exact KJ_nx (s34.1, s34.2.1, s34.2.2) () (inj hb22) (.cons rfl (.cons rfl (.cons rfl (.cons rfl (.nil _))))) rfl
        · replace hb22 := iff_ hq27 hb22
          refine J_exit ?_
          refine KJ_exit_then ?_
          refine KJ_exit_then ?_
          refine KJ_exit_here ?_
          refine KJ_nrm_kq ?_
          obtain rfl := inj hb22
          exact KJ_ot (s18.1, s18.2.1, s18.2.2) () hf23 (.cons rfl (.cons rfl (.nil _))) rfl
      · intro s18 g19 hs
        subst hs
        replace h := thn h
        refine KJ_nrm_then (KJ_J ?_)
        refine J_seq ?_
        refine J_seq ?_
        refine J_region ?_
        refine JLp (T_move rfl) rfl (nofun) .none ?_
        refine JLp (T_neq rfl rfl) rfl (nofun) .none ?_
        refine JL_nil ?_
        refine KJ_nrm_then (KJ_J ?_)
        refine J_test rfl (fun hq37 => ?_) (fun hq37 => ?_)
        · replace h := ift hq37 h
          refine J_seq ?_
          refine J_region ?_
          refine JLp (T_move rfl) rfl (nofun) .none ?_
          refine JLp (T_assign rfl) rfl (nofun) .none ?_
          refine JLp (T_assign rfl) rfl (nofun) .none ?_
          refine JLp (T_assign rfl) rfl (nofun) .none ?_
          refine JL_nil ?_
          refine KJ_nrm_then (KJ_J ?_)
          refine J_ret ?_
          refine KJ_ret_then ?_
          obtain rfl := inj h
          refine KJ.drop1 ?_
          exact KJ_retn' Try.results21 (.tmp (.nilc rfl) (.tmp (.mk rfl) (.tmp (.mk rfl) Rv.nil))) rfl (by simp) rfl
        · replace h := iff_ hq37 h
          refine J_skip ?_
          refine KJ_nrm_then (KJ_J ?_)
          refine J_seq ?_
          refine J_drawR (Ks := []) rfl (by kernel_rfl) fun K hK => ?_
          refine DR.p (.base (t := 7) rfl .nil) (T_faddr fo41_3 rfl) .none rfl rfl (nofun) ?_
          refine DR.p (.dep 0 0 rfl rfl rfl .nil) (T_loadb ty39 rfl hf_api_Walk_Found) .none rfl rfl B0 ?_
          refine DR.p (.base (t := 7) rfl .nil) (T_faddr fo41_4 rfl) .none rfl rfl (nofun) ?_
          refine DR.p (.dep 2 0 rfl rfl rfl .nil) (T_loadb ty3 rfl hf_api_Walk_Sent) .none rfl rfl B0 ?_
          refine DR.p (.dep 1 2 rfl rfl rfl .nil) (T_assign rfl) .none rfl rfl (nofun) ?_
          refine DR.tail (by kernel_rfl) (.refl _) rfl ?_
          simp only [List.reverse_cons, List.reverse_nil, List.nil_append, List.cons_append, DT]
          refine JLp (T_assign rfl) rfl (nofun) .none ?_
          refine JLp (T_assign rfl) rfl (nofun) .none ?_
          refine JL_nil (KJ_hid hK ?_)
          refine KJ_nrm_then (KJ_J ?_)
          refine J_ret ?_
          obtain rfl := inj h
          refine KJ.drop1 ?_
          exact KJ_retn' Try.results21 (.tmp (.mk rfl) (.tmp (.mk rfl) (.tmp (.mk rfl) Rv.nil))) rfl (by simp) rfl
end Go.Proofs.Ytogflgcngfghpaa
end

/- function 23 -/
section
set_option maxHeartbeats 4000000
set_option linter.unusedVariables false
set_option linter.unusedSimpArgs false
namespace Go.Proofs.Ytogflgcngfghpaa
open Go.J
def f_compare_Bound (a0 : Int) (a1 : Int) (a2 : Int) : Option (Int × Int) :=
  (if (decide (a0 < 1)) = true then some true else some (decide (4096 < a0))).bind fun c1 => if c1 = true then some (0, 2) else (if (decide (a1 < 1)) = true then some true else some (decide (4096 < a1))).bind fun c4 => if c4 = true then some (0, 1) else (quoI .i64 (IntKind.i64.wrap ((IntKind.i64.wrap (a0 + a1)) - 1)) a1).bind fun x7 => (if (decide (a2 < 0)) = true then some true else some (decide (x7 < a2))).bind fun c8 => if c8 = true then some (0, 2) else (whileF (σ := Int × Int) (ρ := Int × Int) (fun s11 => if (decide (1 < s11.1)) = true then some (Rd.next (IntKind.i64.wrap (Int.tdiv (IntKind.i64.wrap (s11.1 + 1)) 2), IntKind.i64.wrap (s11.2 + (min s11.1 (IntKind.i64.wrap (2 * (min a2 (IntKind.i64.wrap (Int.tdiv (IntKind.i64.wrap (s11.1 + 1)) 2))))))))) else some (Rd.done (s11.1, s11.2))) bigK (x7, 1)).bind fun o13 => o13.then fun s11 => some (s11.2, 0)

theorem c_compare_Bound {a0 : Int} {a1 : Int} {a2 : Int} {r : Int × Int} (h : f_compare_Bound a0 a1 a2 = some r) : Ct Try.prog 23 [(Rep.int .i64).at a0, (Rep.int .i64).at a1, (Rep.int .i64).at a2] [] (fun _ : Unit => Pr.tup [(Rep.int .i64).at r.1, (Rep.int .i64).at r.2]) (fun _ => []) := by
  refine Ct.mk Try.func23 rfl Try.ntmps23 (by simp) fun I R => ?_
  refine J.drop0 ?_
  unfold f_compare_Bound at h
  refine J_seq ?_
  refine J_region ?_
  refine JLp (T_assign rfl) rfl (nofun) .none ?_
  refine JLp (T_assign rfl) rfl (nofun) .none ?_
  refine JL_nil ?_
  refine KJ_nrm_then (KJ_J ?_)
  refine J_seq ?_
  refine J_seq ?_
  refine J_region ?_
  refine JLp (T_move rfl) rfl (nofun) .none ?_
  refine JLp (T_lss rfl rfl) rfl (nofun) .none ?_
  refine JLp (T_move rfl) rfl (nofun) .none ?_
  replace h := bnd h; obtain ⟨c1, hc1, h⟩ := h
  refine JL_at 3 [(0, (Rep.int .i64).at a0), (1, (Rep.int .i64).at a1), (2, (Rep.int .i64).at a2), (16, Rep.bool.at c1)] (R) ?_ ?_
  · rcases Bool.eq_false_or_eq_true (decide (a0 < 1)) with hq2 | hq2
    · replace hc1 := ift hq2 hc1
      obtain rfl := inj hc1
      refine JLs rfl rfl hq2 rfl ?_
      refine JLs rfl rfl hq2 rfl ?_
      refine JLp (T_pickT rfl hq2 rfl) rfl (nofun) .none ?_
      refine JL_nil ?_
      exact KJ.sub KJ_end (.cons rfl (.cons rfl (.cons rfl (.cons rfl (.nil _)))))
    · replace hc1 := iff_ hq2 hc1
      refine JLp (T_move rfl) rfl (nofun) (.y rfl rfl hq2) ?_
      refine JLp (T_gtr rfl rfl) rfl (nofun) (.y rfl rfl hq2) ?_
      obtain rfl := inj hc1
      refine JLp (T_pickF rfl hq2 rfl) rfl (nofun) .none ?_
      refine JL_nil ?_
      exact KJ.sub KJ_end (.cons rfl (.cons rfl (.cons rfl (.cons rfl (.nil _)))))
  refine JL_nil ?_
  refine KJ_nrm_then (KJ_J ?_)
  refine J_test rfl (fun hq3 => ?_) (fun hq3 => ?_)
  · replace h := ift hq3 h
    refine J_seq ?_
    refine J_region ?_
    refine JLp (T_assign rfl) rfl (nofun) .none ?_
    refine JLp (T_assign rfl) rfl (nofun) .none ?_
    refine JL_nil ?_
    refine KJ_nrm_then (KJ_J ?_)
    refine J_ret ?_
    refine KJ_ret_then ?_
    obtain rfl := inj h
    exact KJ_retn' Try.results23 (.tmp (.mk rfl) (.tmp (.mk rfl) Rv.nil)) rfl (by simp) rfl
  · replace h := iff_ hq3 h
    refine J_skip ?_
    refine KJ_nrm_then (KJ_J ?_)
    refine J_seq ?_
    refine J_seq ?_
    refine J_region ?_
    refine JLp (T_move rfl) rfl (nofun) .none ?_
    refine JLp (T_lss rfl rfl) rfl (nofun) .none ?_
    refine JLp (T_move rfl) rfl (nofun) .none ?_
    replace h := bnd h; obtain ⟨c4, hc4, h⟩ := h
    refine JL_at 3 [(0, (Rep.int .i64).at a0), (1, (Rep.int .i64).at a1), (2, (Rep.int .i64).at a2), (22, Rep.bool.at c4)] (R) ?_ ?_
    · rcases Bool.eq_false_or_eq_true (decide (a1 < 1)) with hq5 | hq5
      · replace hc4 := ift hq5 hc4
        obtain rfl := inj hc4
        refine JLs rfl rfl hq5 rfl ?_
        refine JLs rfl rfl hq5 rfl ?_
        refine JLp (T_pickT rfl hq5 rfl) rfl (nofun) .none ?_
        refine JL_nil ?_
        exact KJ.sub KJ_end (.cons rfl (.cons rfl (.cons rfl (.cons rfl (.nil _)))))
      · replace hc4 := iff_ hq5 hc4
        refine JLp (T_move rfl) rfl (nofun) (.y rfl rfl hq5) ?_
        refine JLp (T_gtr rfl rfl) rfl (nofun) (.y rfl rfl hq5) ?_
        obtain rfl := inj hc4
        refine JLp (T_pickF rfl hq5 rfl) rfl (nofun) .none ?_
        refine JL_nil ?_
        exact KJ.sub KJ_end (.cons rfl (.cons rfl (.cons rfl (.cons rfl (.nil _)))))
    refine JL_nil ?_
    refine KJ_nrm_then (KJ_J ?_)
    refine J_test rfl (fun hq6 => ?_) (fun hq6 => ?_)
    · replace h := ift hq6 h
      refine J_seq ?_
      refine J_region ?_
      refine JLp (T_assign rfl) rfl (nofun) .none ?_
      refine JLp (T_assign rfl) rfl (nofun) .none ?_
      refine JL_nil ?_
      refine KJ_nrm_then (KJ_J ?_)
      refine J_ret ?_
      refine KJ_ret_then ?_
      obtain rfl := inj h
      exact KJ_retn' Try.results23 (.tmp (.mk rfl) (.tmp (.mk rfl) Rv.nil)) rfl (by simp) rfl
    · replace h := iff_ hq6 h
      refine J_skip ?_
      refine KJ_nrm_then (KJ_J ?_)
      refine J_seq ?_
      refine J_region ?_
      refine JLp (T_move rfl) rfl (nofun) .none ?_
      refine JLp (T_move rfl) rfl (nofun) .none ?_
      refine JLp (T_add rfl rfl) rfl (nofun) .none ?_
      refine JLp (T_sub rfl rfl) rfl (nofun) .none ?_
      refine JLp (T_move rfl) rfl (nofun) .none ?_
      replace h := bnd h; obtain ⟨x7, hx7, h⟩ := h
      refine JLp (T_quoI rfl rfl hx7) rfl (nofun) .none ?_
      refine JLp (T_assign rfl) rfl (nofun) .none ?_
      refine JL_nil ?_
      refine KJ_nrm_then (KJ_J ?_)
      refine J_seq ?_
      refine J_seq ?_
      refine J_region ?_
      refine JLp (T_move rfl) rfl (nofun) .none ?_
      refine JLp (T_lss rfl rfl) rfl (nofun) .none ?_
      refine JLp (T_move rfl) rfl (nofun) .none ?_
      replace h := bnd h; obtain ⟨c8, hc8, h⟩ := h
      refine JL_at 4 [(2, (Rep.int .i64).at a2), (8, (Rep.int .i64).at x7), (35, Rep.bool.at c8)] (R) ?_ ?_
      · rcases Bool.eq_false_or_eq_true (decide (a2 < 0)) with hq9 | hq9
        · replace hc8 := ift hq9 hc8
          obtain rfl := inj hc8
          refine JLs rfl rfl hq9 rfl ?_
          refine JLs rfl rfl hq9 rfl ?_
          refine JLs rfl rfl hq9 rfl ?_
          refine JLp (T_pickT rfl hq9 rfl) rfl (nofun) .none ?_
          refine JL_nil ?_
          exact KJ.sub KJ_end (.cons rfl (.cons rfl (.cons rfl (.nil _))))
        · replace hc8 := iff_ hq9 hc8
          refine JLp (T_move rfl) rfl (nofun) (.y rfl rfl hq9) ?_
          refine JLp (T_move rfl) rfl (nofun) (.y rfl rfl hq9) ?_
          refine JLp (T_gtr rfl rfl) rfl (nofun) (.y rfl rfl hq9) ?_
          obtain rfl := inj hc8
          refine JLp (T_pickF rfl hq9 rfl) rfl (nofun) .none ?_
          refine JL_nil ?_
          exact KJ.sub KJ_end (.cons rfl (.cons rfl (.cons rfl (.nil _))))
      refine JL_nil ?_
      refine KJ_nrm_then (KJ_J ?_)
      refine J_test rfl (fun hq10 => ?_) (fun hq10 => ?_)
      · replace h := ift hq10 h
        refine J_seq ?_
        refine J_region ?_
        refine JLp (T_assign rfl) rfl (nofun) .none ?_
        refine JLp (T_assign rfl) rfl (nofun) .none ?_
        refine JL_nil ?_
        refine KJ_nrm_then (KJ_J ?_)
        refine J_ret ?_
        refine KJ_ret_then ?_
        obtain rfl := inj h
        exact KJ_retn' Try.results23 (.tmp (.mk rfl) (.tmp (.mk rfl) Rv.nil)) rfl (by simp) rfl
      · replace h := iff_ hq10 h
        refine J_skip ?_
        refine KJ_nrm_then (KJ_J ?_)
        refine J_seq ?_
        refine J_region ?_
        refine JLp (T_assign rfl) rfl (nofun) .none ?_
        refine JL_nil ?_
        refine KJ_nrm_then (KJ_J ?_)
        refine J_seq ?_
        replace h := bnd h; obtain ⟨o13, ho14, h⟩ := h
        refine J_cuto o13 (fun (s11 : Int × Int) (g12 : Unit) => [(9, (Rep.int .i64).at s11.2)]) (fun s11 g12 => R) ?_ ?_
        · refine J_block ?_
          refine J_while ho14 (fun (s11 : Int × Int) (g12 : Unit) => [(2, (Rep.int .i64).at a2), (8, (Rep.int .i64).at s11.1), (9, (Rep.int .i64).at s11.2)]) (fun s11 g12 => R) () (.cons rfl (.cons rfl (.cons rfl (.nil _)))) rfl ?_
          intro s11 g12 st17 hb15 hf16
          refine J_seq ?_
          refine J_seq ?_
          refine J_region ?_
          refine JLp (T_move rfl) rfl (nofun) .none ?_
          refine JLp (T_gtr rfl rfl) rfl (nofun) .none ?_
          refine JL_nil ?_
          refine KJ_nrm_then (KJ_J ?_)
          refine J_test rfl (fun hq18 => ?_) (fun hq18 => ?_)
          · replace hb15 := ift hq18 hb15
            refine J_skip ?_
            refine KJ_nrm_then (KJ_J ?_)
            refine J_block ?_
            refine J_seq ?_
            refine J_region ?_
            refine JLp (T_move rfl) rfl (nofun) .none ?_
            refine JLp (T_add rfl rfl) rfl (nofun) .none ?_
            refine JLp (T_quo rfl rfl (by decide)) rfl (nofun) .none ?_
            refine JLp (T_assign rfl) rfl (nofun) .none ?_
            refine JL_nil ?_
            refine KJ_nrm_then (KJ_J ?_)
            refine J_seq ?_
            refine J_region ?_
            refine JLp (T_move rfl) rfl (nofun) .none ?_
            refine JLp (T_move rfl) rfl (nofun) .none ?_
            refine JLp (T_move rfl) rfl (nofun) .none ?_
            refine JLp (T_move rfl) rfl (nofun) .none ?_
            refine JLp (T_min rfl rfl) rfl (nofun) .none ?_
            refine JLp (T_mul rfl rfl) rfl (nofun) .none ?_
            refine JLp (T_min rfl rfl) rfl (nofun) .none ?_
            refine JLp (T_add rfl rfl) rfl (nofun) .none ?_
            refine JLp (T_assign rfl) rfl (nofun) .none ?_
            refine JL_nil ?_
            refine KJ_nrm_then (KJ_J ?_)
            refine J_region ?_
            refine JLp (T_move rfl) rfl (nofun) .none ?_
            refine JLp (T_assign rfl) rfl (nofun) .none ?_
            refine JL_nil ?_
            refine KJ_nrm_blk ?_
            refine KJ_nrm_then ?_
            exact KJ_nx (IntKind.i64.wrap (Int.tdiv (IntKind.i64.wrap (s11.1 + 1)) 2), IntKind.i64.wrap (s11.2 + (min s11.1 (IntKind.i64.wrap (2 * (min a2 (IntKind.i64.wrap (Int.tdiv (IntKind.i64.wrap (s11.1 + 1)) 2)))))))) () (inj hb15) (.cons rfl (.cons rfl (.cons rfl (.nil _)))) rfl
          · replace hb15 := iff_ hq18 hb15
            refine J_exit ?_
            refine KJ_exit_then ?_
            refine KJ_exit_then ?_
            refine KJ_exit_here ?_
            refine KJ_nrm_kq ?_
            obtain rfl := inj hb15
            exact KJ_ot (s11.1, s11.2) () hf16 (.cons rfl (.nil _)) rfl
        · intro s11 g12 hs
          subst hs
          replace h := thn h
          refine KJ_nrm_then (KJ_J ?_)
          refine J_seq ?_
          refine J_region ?_
          refine JLp (T_move rfl) rfl (nofun) .none ?_
          refine JLp (T_assign rfl) rfl (nofun) .none ?_
          refine JLp (T_assign rfl) rfl (nofun) .none ?_
          refine JL_nil ?_
          refine KJ_nrm_then (KJ_J ?_)
          refine J_ret ?_
          obtain rfl := inj h
          exact KJ_retn' Try.results23 (.tmp (.mk rfl) (.tmp (.mk rfl) Rv.nil)) rfl (by simp) rfl
end Go.Proofs.Ytogflgcngfghpaa
end

/- function 25 -/
section
set_option maxHeartbeats 4000000
set_option linter.unusedVariables false
set_option linter.unusedSimpArgs false
namespace Go.Proofs.Ytogflgcngfghpaa
open Go.J
def f_slices_Equal_api_Extent_api_Extent (a0 : List api_Extent) (a1 : List api_Extent) : Option (Bool) :=
  if (!decide ((a0.length : Int) = (a1.length : Int))) = true then some false else (capN (a0.length : Int) (countF (σ := Unit) (ρ := Bool) (fun i9 s2 => (idx a0 i9).bind fun x13 => (idx a1 i9).bind fun x14 => if (!(eq_api_Extent x13 x14)) = true then some (Rd.ret false) else some (Rd.next ())) (((a0.length : Int) : Int) - 0).toNat 0 ())).bind fun o4 => o4.then fun s2 => some true

theorem c_slices_Equal_api_Extent_api_Extent {a0 : List api_Extent} {a1 : List api_Extent} {r : Bool} (h : f_slices_Equal_api_Extent_api_Extent a0 a1 = some r) : Ct Try.prog 25 [(Rep.sl r_api_Extent 2).at a0, (Rep.sl r_api_Extent 2).at a1] [] (fun _ : Unit => Rep.bool.at r) (fun _ => []) := by
  refine Ct.mk Try.func25 rfl Try.ntmps25 (by simp) fun I R => ?_
  refine J.drop0 ?_
  unfold f_slices_Equal_api_Extent_api_Extent at h
  refine J_seq ?_
  refine J_region ?_
  refine JLp (T_assign rfl) rfl (nofun) .none ?_
  refine JL_nil ?_
  refine KJ_nrm_then (KJ_J ?_)
  refine J_seq ?_
  refine J_seq ?_
  refine J_region ?_
  refine JLp (T_move rfl) rfl (nofun) .none ?_
  refine JLp (T_len (ρ := r_api_Extent) sl39 (.mk rfl)) rfl (nofun) .none ?_
  refine JLp (T_move rfl) rfl (nofun) .none ?_
  refine JLp (T_len (ρ := r_api_Extent) sl39 (.mk rfl)) rfl (nofun) .none ?_
  refine JLp (T_neq rfl rfl) rfl (nofun) .none ?_
  refine JL_nil ?_
  refine KJ_nrm_then (KJ_J ?_)
  refine J_test rfl (fun hq1 => ?_) (fun hq1 => ?_)
  · replace h := ift hq1 h
    refine J_seq ?_
    refine J_region ?_
    refine JLp (T_assign rfl) rfl (nofun) .none ?_
    refine JL_nil ?_
    refine KJ_nrm_then (KJ_J ?_)
    refine J_ret ?_
    refine KJ_ret_then ?_
    obtain rfl := inj h
    exact KJ_ret1' Try.results25 (.tmp (.mk rfl) Rv.nil) rfl rfl
  · replace h := iff_ hq1 h
    refine J_skip ?_
    refine KJ_nrm_then (KJ_J ?_)
    refine J_seq ?_
    refine J_seq ?_
    refine J_region ?_
    refine JLp (T_move rfl) rfl (nofun) .none ?_
    refine JLp (T_len (ρ := r_api_Extent) sl39 (.mk rfl)) rfl (nofun) .none ?_
    refine JLp (T_move rfl) rfl (nofun) .none ?_
    refine JL_nil ?_
    refine KJ_nrm_then (KJ_J ?_)
    replace h := bnd h; obtain ⟨o4, ho5, h⟩ := h
    have ho5c := capN_some ho5
    refine J_cuto o4 (fun (s2 : Unit) (g3 : Unit) => []) (fun s2 g3 => R) ?_ ?_
    · refine J_block ?_
      refine J_count (n := (a0.length : Int)) ho5c.2 (by decide) ho5c.1 (fun i9 (s2 : Unit) (g3 : Unit) => [(0, (Rep.sl r_api_Extent 2).at a0), (1, (Rep.sl r_api_Extent 2).at a1), (12, (Rep.int .i64).at (a0.length : Int)), (13, (Rep.int .i64).at i9)]) (fun i9 s2 g3 => R) () (.cons rfl (.cons rfl (.cons rfl (.cons rfl (.nil _))))) rfl ?_ ?_
      · intro i9 s2 g3 hi ho5n
        refine J_seq (J_region (JLp (T_lss rfl rfl) rfl (nofun) .none (JL_nil (KJ_nrm_then (KJ_J ?_)))))
        refine J_seq (J_test rfl (fun hp => absurd (of_decide_eq_true hp) (by omega)) (fun _ => J_exit (KJ_exit_then (KJ_exit_then (KJ_exit_here (KJ_nrm_kq ?_))))))
        exact KJ_ot s2 g3 ho5n (.nil _) rfl
      · intro i9 s2 g3 st8 hi10 hj11 hw12 hb6 hf7
        refine J_seq (J_region (JLp (T_lss rfl rfl) rfl (nofun) .none (JL_nil (KJ_nrm_then (KJ_J ?_)))))
        refine J_seq (J_test rfl (fun _ => J_skip (KJ_nrm_then (KJ_J ?_))) (fun hp => absurd hj11 (of_decide_eq_false hp)))
        refine J_seq ?_
        refine J_block ?_
        refine J_seq ?_
        refine J_region ?_
        refine JLp (T_move rfl) rfl (nofun) .none ?_
        refine JLp (T_assign rfl) rfl (nofun) .none ?_
        refine JL_nil ?_
        refine KJ_nrm_then (KJ_J ?_)
        refine J_seq ?_
        replace hb6 := bnd hb6; obtain ⟨x13, hx13, hb6⟩ := hb6
        replace hb6 := bnd hb6; obtain ⟨x14, hx14, hb6⟩ := hb6
        refine J_drawR (Ks := []) rfl (by kernel_rfl) fun K hK => ?_
        refine DR.p (.base (t := 0) rfl .nil) (T_move rfl) .none rfl rfl (nofun) ?_
        refine DR.p (.base (t := 5) rfl .nil) (T_move rfl) .none rfl rfl (nofun) ?_
        refine DR.p (.dep 0 1 rfl rfl rfl (.dep 1 0 rfl rfl rfl .nil)) (T_ix sl39 (.mk rfl) rfl hx13) .none rfl rfl (nofun) ?_
        refine DR.p (.dep 2 0 rfl rfl rfl .nil) (T_load ty62 rfl) .none rfl rfl (nofun) ?_
        refine DR.p (.base (t := 1) rfl .nil) (T_move rfl) .none rfl rfl (nofun) ?_
        refine DR.p (.base (t := 5) rfl .nil) (T_move rfl) .none rfl rfl (nofun) ?_
        refine DR.p (.dep 4 1 rfl rfl rfl (.dep 5 0 rfl rfl rfl .nil)) (T_ix sl39 (.mk rfl) rfl hx14) .none rfl rfl (nofun) ?_
        refine DR.p (.dep 6 0 rfl rfl rfl .nil) (T_load ty62 rfl) .none rfl rfl (nofun) ?_
        refine DR.tail (by kernel_rfl) (.refl _) rfl ?_
        simp only [List.reverse_cons, List.reverse_nil, List.nil_append, List.cons_append, DT]
        refine JLp (T_neqS eqok62 rfl rfl) rfl (nofun) .none ?_
        refine JL_nil (KJ_hid hK ?_)
        refine KJ_nrm_then (KJ_J ?_)
        refine J_test rfl (fun hq15 => ?_) (fun hq15 => ?_)
        · replace hb6 := ift hq15 hb6
          refine J_seq ?_
          refine J_region ?_
          refine JLp (T_assign rfl) rfl (nofun) .none ?_
          refine JL_nil ?_
          refine KJ_nrm_then (KJ_J ?_)
          refine J_ret ?_
          refine KJ_ret_blk ?_
          refine KJ_ret_then ?_
          refine KJ_ret_then ?_
          refine KJ_ret_blk ?_
          refine KJ_ret_kq ?_
          refine KJ_ret_then ?_
          obtain rfl := inj hb6
          have hf7' := hf7
          obtain rfl : o4 = _ := hf7'
          replace h : some _ = some _ := h
          obtain rfl := inj h
          exact KJ_ret1' Try.results25 (.tmp (.mk rfl) Rv.nil) rfl rfl
        · replace hb6 := iff_ hq15 hb6
          refine J_skip ?_
          refine KJ_nrm_blk ?_
          refine KJ_nrm_then (KJ_J ?_)
          refine J_region ?_
          refine JLp (T_addw rfl rfl hw12) rfl (nofun) .none ?_
          refine JLp (T_move rfl) rfl (nofun) .none ?_
          refine JL_nil ?_
          refine KJ_nrm_then ?_
          exact KJ_nx () () (inj hb6) (.cons rfl (.cons rfl (.cons rfl (.cons rfl (.nil _))))) rfl
    · intro s2 g3 hs
      subst hs
      replace h := thn h
      refine KJ_nrm_then (KJ_J ?_)
      refine J_seq ?_
      refine J_region ?_
      refine JLp (T_assign rfl) rfl (nofun) .none ?_
      refine JL_nil ?_
      refine KJ_nrm_then (KJ_J ?_)
      refine J_ret ?_
      obtain rfl := inj h
      exact KJ_ret1' Try.results25 (.tmp (.mk rfl) Rv.nil) rfl rfl
end Go.Proofs.Ytogflgcngfghpaa
end

/- function 83 -/
section
set_option maxHeartbeats 4000000
set_option linter.unusedVariables false
set_option linter.unusedSimpArgs false
namespace Go.Proofs.Ytogflgcngfghpaa
open Go.J
def f_ref04_Bytes (a0 : List (List Int)) : Option (List Int) :=
  (whileF (σ := List Int × Int) (ρ := List Int) (fun s1 => if (decide (s1.2 < (a0.length : Int))) = true then (whileF (σ := List Int × Int) (ρ := Rd (List Int × Int) (List Int)) (fun s9 => if (decide (s9.2 < 8)) = true then (idx a0 s1.2).bind fun x17 => (idx x17 s9.2).bind fun x18 => (app 1 s9.1 [x18]).bind fun x19 => some (Rd.next (x19, IntKind.i64.wrap (s9.2 + 1))) else some (Rd.done (s9.1, s9.2))) bigK (s1.1, 0)).bind fun o11 => o11.then fun s9 => some (Rd.next (s9.1, IntKind.i64.wrap (s1.2 + 1))) else some (Rd.done (s1.1, s1.2))) bigK ([], 0)).bind fun o3 => o3.then fun s1 => some s1.1

theorem c_ref04_Bytes {a0 : List (List Int)} {r : List Int} (h : f_ref04_Bytes a0 = some r) : Ct Try.prog 83 [(Rep.sl (Rep.arr (Rep.int .u8) 1 8) 8).at a0] [] (fun _ : Unit => (Rep.sl (Rep.int .u8) 1).at r) (fun _ => []) := by
  refine Ct.mk Try.func83 rfl Try.ntmps83 (by simp) fun I R => ?_
  refine J.drop0 ?_
  unfold f_ref04_Bytes at h
  refine J_seq ?_
  refine J_region ?_
  refine JLp (T_assign rfl) rfl (nofun) .none ?_
  refine JL_nil ?_
  refine KJ_nrm_then (KJ_J ?_)
  refine J_seq ?_
  refine J_region ?_
  refine JLp (T_assign rfl) rfl (nofun) .none ?_
  refine JL_nil ?_
  refine KJ_nrm_then (KJ_J ?_)
  refine J_seq ?_
  refine J_seq ?_
  refine J_region ?_
  refine JLp (T_assign rfl) rfl (nofun) .none ?_
  refine JL_nil ?_
  refine KJ_nrm_then (KJ_J ?_)
  refine J_rownil 5 1 (Rep.int .u8) ?_
  replace h := bnd h; obtain ⟨o3, ho4, h⟩ := h
  refine J_cuto o3 (fun (s1 : List Int × Int) (g2 : Value) => [(3, Rep.slv.at g2)]) (fun s1 g2 => Ent.row g2 5 1 (Rep.int .u8) s1.1 :: R) ?_ ?_
  · refine J_block ?_
    refine J_while ho4 (fun (s1 : List Int × Int) (g2 : Value) => [(0, (Rep.sl (Rep.arr (Rep.int .u8) 1 8) 8).at a0), (3, Rep.slv.at g2), (4, (Rep.int .i64).at s1.2)]) (fun s1 g2 => Ent.row g2 5 1 (Rep.int .u8) s1.1 :: R) (.slice none 0 0) (.cons rfl (.cons rfl (.cons rfl (.nil _)))) rfl ?_
    intro s1 g2 st7 hb5 hf6
    refine J_seq ?_
    refine J_seq ?_
    refine J_region ?_
    refine JLp (T_move rfl) rfl (nofun) .none ?_
    refine JLp (T_move rfl) rfl (nofun) .none ?_
    refine JLp (T_len (ρ := (Rep.arr (Rep.int .u8) 1 8)) sl64 (.mk rfl)) rfl (nofun) .none ?_
    refine JLp (T_lss rfl rfl) rfl (nofun) .none ?_
    refine JL_nil ?_
    refine KJ_nrm_then (KJ_J ?_)
    refine J_test rfl (fun hq8 => ?_) (fun hq8 => ?_)
    · replace hb5 := ift hq8 hb5
      refine J_skip ?_
      refine KJ_nrm_then (KJ_J ?_)
      refine J_seq ?_
      refine J_block ?_
      refine J_seq ?_
      refine J_region ?_
      refine JLp (T_assign rfl) rfl (nofun) .none ?_
      refine JL_nil ?_
      refine KJ_nrm_then (KJ_J ?_)
      replace hb5 := bnd hb5; obtain ⟨o11, ho12, hb5⟩ := hb5
      refine J_cuto o11 (fun (s9 : List Int × Int) (g10 : Value) => [(0, (Rep.sl (Rep.arr (Rep.int .u8) 1 8) 8).at a0), (4, (Rep.int .i64).at s1.2), (3, Rep.slv.at g10)]) (fun s9 g10 => Ent.row g10 5 1 (Rep.int .u8) s9.1 :: R) ?_ ?_
      · refine J_block ?_
        refine J_while ho12 (fun (s9 : List Int × Int) (g10 : Value) => [(0, (Rep.sl (Rep.arr (Rep.int .u8) 1 8) 8).at a0), (4, (Rep.int .i64).at s1.2), (3, Rep.slv.at g10), (5, (Rep.int .i64).at s9.2)]) (fun s9 g10 => Ent.row g10 5 1 (Rep.int .u8) s9.1 :: R) g2 (.cons rfl (.cons rfl (.cons rfl (.cons rfl (.nil _))))) rfl ?_
        intro s9 g10 st15 hb13 hf14
        refine J_seq ?_
        refine J_seq ?_
        refine J_region ?_
        refine JLp (T_move rfl) rfl (nofun) .none ?_
        refine JLp (T_lss rfl rfl) rfl (nofun) .none ?_
        refine JL_nil ?_
        refine KJ_nrm_then (KJ_J ?_)
        refine J_test rfl (fun hq16 => ?_) (fun hq16 => ?_)
        · replace hb13 := ift hq16 hb13
          refine J_skip ?_
          refine KJ_nrm_then (KJ_J ?_)
          refine J_seq ?_
          refine J_block ?_
          refine J_region ?_
          refine JLp (T_move rfl) rfl (nofun) .none ?_
          refine JLp (T_move rfl) rfl (nofun) .none ?_
          refine JLp (T_move rfl) rfl (nofun) .none ?_
          refine JLp (T_move rfl) rfl (nofun) .none ?_
          replace hb13 := bnd hb13; obtain ⟨x17, hx17, hb13⟩ := hb13
          refine JLp (T_ix sl64 (.mk rfl) rfl hx17) rfl (nofun) .none ?_
          replace hb13 := bnd hb13; obtain ⟨x18, hx18, hb13⟩ := hb13
          refine JLp (T_ixa ar76 (by decide) rfl rfl hx18) rfl (nofun) .none ?_
          refine JLp (T_load ty5 rfl) rfl (nofun) .none ?_
          refine JLe0 (T_bslice (ρ := (Rep.int .u8)) sl26 (Lay.int _) (.cons (.mk rfl) .nil) rfl (by decide)) rfl .none ?_
          replace hb13 := bnd hb13; obtain ⟨x19, hx19, hb13⟩ := hb13
          refine JLe1 (T_append sl26 ⟨_, (Lay.int _)⟩ (.mk rfl) (.mk rfl) hx19) rfl .none fun g20 => ?_
          refine JLp (T_assign rfl) rfl (nofun) .none ?_
          refine JL_nil ?_
          refine KJ_nrm_blk ?_
          refine KJ_nrm_then (KJ_J ?_)
          refine J_region ?_
          refine JLp (T_move rfl) rfl (nofun) .none ?_
          refine JLp (T_add rfl rfl) rfl (nofun) .none ?_
          refine JLp (T_assign rfl) rfl (nofun) .none ?_
          refine JL_nil ?_
          refine KJ_nrm_then ?_
          exact KJ_nx (x19, IntKind.i64.wrap (s9.2 + 1)) g20 (inj hb13) (.cons rfl (.cons rfl (.cons rfl (.cons rfl (.nil _))))) rfl
        · replace hb13 := iff_ hq16 hb13
          refine J_exit ?_
          refine KJ_exit_then ?_
          refine KJ_exit_then ?_
          refine KJ_exit_here ?_
          refine KJ_nrm_kq ?_
          obtain rfl := inj hb13
          exact KJ_ot (s9.1, s9.2) g10 hf14 (.cons rfl (.cons rfl (.cons rfl (.nil _)))) rfl
      · intro s9 g10 hs
        subst hs
        replace hb5 := thn hb5
        refine KJ_nrm_blk ?_
        refine KJ_nrm_then (KJ_J ?_)
        refine J_region ?_
        refine JLp (T_move rfl) rfl (nofun) .none ?_
        refine JLp (T_add rfl rfl) rfl (nofun) .none ?_
        refine JLp (T_assign rfl) rfl (nofun) .none ?_
        refine JL_nil ?_
        refine KJ_nrm_then ?_
        exact KJ_nx (s9.1, IntKind.i64.wrap (s1.2 + 1)) g10 (inj hb5) (.cons rfl (.cons rfl (.cons rfl (.nil _)))) rfl
    · replace hb5 := iff_ hq8 hb5
      refine J_exit ?_
      refine KJ_exit_then ?_
      refine KJ_exit_then ?_
      refine KJ_exit_here ?_
      refine KJ_nrm_kq ?_
      obtain rfl := inj hb5
      exact KJ_ot (s1.1, s1.2) g2 hf6 (.cons rfl (.nil _)) rfl
  · intro s1 g2 hs
    subst hs
    replace h := thn h
    refine KJ_nrm_then (KJ_J ?_)
    refine J_seq ?_
    refine J_region ?_
    refine JLp (T_move rfl) rfl (nofun) .none ?_
    refine JLp (T_assign rfl) rfl (nofun) .none ?_
    refine JL_nil ?_
    refine KJ_nrm_then (KJ_J ?_)
    refine J_ret ?_
    refine KJ_freeze (t := 2) rfl ?_
    obtain rfl := inj h
    exact KJ_ret1' Try.results83 (.tmp (.mk rfl) Rv.nil) rfl rfl
end Go.Proofs.Ytogflgcngfghpaa
end

/- function 61 -/
section
set_option maxHeartbeats 4000000
set_option linter.unusedVariables false
set_option linter.unusedSimpArgs false
namespace Go.Proofs.Ytogflgcngfghpaa
open Go.J
def f_ref04_Sectors (a0 : List (List Int)) : Option (Int) :=
  (f_ref04_Bytes a0).bind fun x1 => (f_ref04_Digest x1).bind fun x2 => some x2

theorem c_ref04_Sectors {a0 : List (List Int)} {r : Int} (h : f_ref04_Sectors a0 = some r) : Ct Try.prog 61 [(Rep.sl (Rep.arr (Rep.int .u8) 1 8) 8).at a0] [] (fun _ : Unit => (Rep.int .u64).at r) (fun _ => []) := by
  refine Ct.mk Try.func61 rfl Try.ntmps61 (by simp) fun I R => ?_
  refine J.drop0 ?_
  unfold f_ref04_Sectors at h
  refine J_seq ?_
  refine J_region ?_
  refine JLp (T_assign rfl) rfl (nofun) .none ?_
  refine JL_nil ?_
  refine KJ_nrm_then (KJ_J ?_)
  refine J_seq ?_
  refine J_region ?_
  refine JLp (T_move rfl) rfl (nofun) .none ?_
  replace h := bnd h; obtain ⟨x1, hx1, h⟩ := h
  refine JLe0 (T_call ⟨_, Try.func83, rfl, rfl⟩ (c_ref04_Bytes hx1) ⟨(.mk rfl), trivial⟩) rfl .none ?_
  replace h := bnd h; obtain ⟨x2, hx2, h⟩ := h
  refine JLe0 (T_call ⟨_, Try.func82, rfl, rfl⟩ (c_ref04_Digest hx2) ⟨(.mk rfl), trivial⟩) rfl .none ?_
  refine JLp (T_assign rfl) rfl (nofun) .none ?_
  refine JL_nil ?_
  refine KJ_nrm_then (KJ_J ?_)
  refine J_ret ?_
  obtain rfl := inj h
  exact KJ_ret1' Try.results61 (.tmp (.mk rfl) Rv.nil) rfl rfl
end Go.Proofs.Ytogflgcngfghpaa
end

/- function 62 -/
section
set_option maxHeartbeats 4000000
set_option linter.unusedVariables false
set_option linter.unusedSimpArgs false
namespace Go.Proofs.Ytogflgcngfghpaa
open Go.J
def f_ref11_Sectors (a0 : List (List Int)) (a1 : Int) (a2 : Int) : Option (List (List Int)) :=
  (slc a0 (IntKind.i64.wrap (a2 * a1)) (min (a0.length : Int) (IntKind.i64.wrap ((IntKind.i64.wrap (a2 * a1)) + a1)))).bind fun x1 => some x1

theorem c_ref11_Sectors {a0 : List (List Int)} {a1 : Int} {a2 : Int} {r : List (List Int)} (h : f_ref11_Sectors a0 a1 a2 = some r) : Ct Try.prog 62 [(Rep.sl (Rep.arr (Rep.int .u8) 1 8) 8).at a0, (Rep.int .i64).at a1, (Rep.int .i64).at a2] [] (fun _ : Unit => (Rep.sl (Rep.arr (Rep.int .u8) 1 8) 8).at r) (fun _ => []) := by
  refine Ct.mk Try.func62 rfl Try.ntmps62 (by simp) fun I R => ?_
  refine J.drop0 ?_
  unfold f_ref11_Sectors at h
  refine J_seq ?_
  refine J_region ?_
  refine JLp (T_assign rfl) rfl (nofun) .none ?_
  refine JL_nil ?_
  refine KJ_nrm_then (KJ_J ?_)
  refine J_seq ?_
  refine J_region ?_
  refine JLp (T_move rfl) rfl (nofun) .none ?_
  refine JLp (T_move rfl) rfl (nofun) .none ?_
  refine JLp (T_move rfl) rfl (nofun) .none ?_
  refine JLp (T_mul rfl rfl) rfl (nofun) .none ?_
  refine JLp (T_move rfl) rfl (nofun) .none ?_
  refine JLp (T_len (ρ := (Rep.arr (Rep.int .u8) 1 8)) sl64 (.mk rfl)) rfl (nofun) .none ?_
  refine JLp (T_move rfl) rfl (nofun) .none ?_
  refine JLp (T_move rfl) rfl (nofun) .none ?_
  refine JLp (T_mul rfl rfl) rfl (nofun) .none ?_
  refine JLp (T_move rfl) rfl (nofun) .none ?_
  refine JLp (T_add rfl rfl) rfl (nofun) .none ?_
  refine JLp (T_min rfl rfl) rfl (nofun) .none ?_
  replace h := bnd h; obtain ⟨x1, hx1, h⟩ := h
  refine JLp (T_slice_lh sl64 (.mk rfl) rfl rfl hx1) rfl (nofun) .none ?_
  refine JLp (T_assign rfl) rfl (nofun) .none ?_
  refine JL_nil ?_
  refine KJ_nrm_then (KJ_J ?_)
  refine J_ret ?_
  obtain rfl := inj h
  exact KJ_ret1' Try.results62 (.tmp (.mk rfl) Rv.nil) rfl rfl
end Go.Proofs.Ytogflgcngfghpaa
end

/- function 30 -/
section
set_option maxHeartbeats 4000000
set_option linter.unusedVariables false
set_option linter.unusedSimpArgs false
namespace Go.Proofs.Ytogflgcngfghpaa
open Go.J
def f_ref11_Build (a0 : List (List Int)) (a1 : Int) : Option (api_Tree × Int) :=
  (if (decide ((a0.length : Int) < 1)) = true then some true else some (decide (4096 < (a0.length : Int)))).bind fun c2 => if c2 = true then some ((⟨0, 0, []⟩ : api_Tree), 2) else (if (decide (a1 < 1)) = true then some true else some (decide (4096 < a1))).bind fun c5 => if c5 = true then some ((⟨0, 0, []⟩ : api_Tree), 1) else (whileF (σ := List Int × Int) (ρ := api_Tree × Int) (fun s8 => (f_ref11_Leaves (a0.length : Int) a1).bind fun x15 => if (decide (s8.2 < x15)) = true then (f_ref11_Sectors a0 a1 s8.2).bind fun x17 => (f_ref04_Sectors x17).bind fun x18 => (app 8 s8.1 [x18]).bind fun x19 => some (Rd.next (x19, IntKind.i64.wrap (s8.2 + 1))) else some (Rd.done (s8.1, s8.2))) bigK ([], 0)).bind fun o10 => o10.then fun s8 => (f_ref11_tree (a0.length : Int) a1 s8.1).bind fun x21 => some (x21, 0)

theorem c_ref11_Build {a0 : List (List Int)} {a1 : Int} {r : api_Tree × Int} (h : f_ref11_Build a0 a1 = some r) : Ct Try.prog 30 [(Rep.sl (Rep.arr (Rep.int .u8) 1 8) 8).at a0, (Rep.int .i64).at a1] [] (fun _ : Unit => Pr.tup [r_api_Tree.at r.1, (Rep.int .i64).at r.2]) (fun _ => []) := by
  refine Ct.mk Try.func30 rfl Try.ntmps30 (by simp) fun I R => ?_
  refine J.drop0 ?_
  unfold f_ref11_Build at h
  refine J_seq ?_
  refine J_region ?_
  refine JLa (T_alloc z24 lay_api_Tree) rfl .none fun b1 => ?_
  refine JLp (T_assign rfl) rfl (nofun) .none ?_
  refine JL_nil ?_
  refine KJ_nrm_then (KJ_J ?_)
  refine J_seq ?_
  refine J_seq ?_
  refine J_region ?_
  refine JLp (T_move rfl) rfl (nofun) .none ?_
  refine JLp (T_len (ρ := (Rep.arr (Rep.int .u8) 1 8)) sl64 (.mk rfl)) rfl (nofun) .none ?_
  refine JLp (T_lss rfl rfl) rfl (nofun) .none ?_
  refine JLp (T_move rfl) rfl (nofun) .none ?_
  replace h := bnd h; obtain ⟨c2, hc2, h⟩ := h
  refine JL_at 4 [(0, (Rep.sl (Rep.arr (Rep.int .u8) 1 8) 8).at a0), (1, (Rep.int .i64).at a1), (4, Rep.ptr.at (b1, 0)), (15, Rep.bool.at c2)] (Ent.box b1 r_api_Tree (⟨0, 0, []⟩ : api_Tree) :: R) ?_ ?_
  · rcases Bool.eq_false_or_eq_true (decide ((a0.length : Int) < 1)) with hq3 | hq3
    · replace hc2 := ift hq3 hc2
      obtain rfl := inj hc2
      refine JLs rfl rfl hq3 rfl ?_
      refine JLs rfl rfl hq3 rfl ?_
      refine JLs rfl rfl hq3 rfl ?_
      refine JLp (T_pickT rfl hq3 rfl) rfl (nofun) .none ?_
      refine JL_nil ?_
      exact KJ.sub KJ_end (.cons rfl (.cons rfl (.cons rfl (.cons rfl (.nil _)))))
    · replace hc2 := iff_ hq3 hc2
      refine JLp (T_move rfl) rfl (nofun) (.y rfl rfl hq3) ?_
      refine JLp (T_len (ρ := (Rep.arr (Rep.int .u8) 1 8)) sl64 (.mk rfl)) rfl (nofun) (.y rfl rfl hq3) ?_
      refine JLp (T_gtr rfl rfl) rfl (nofun) (.y rfl rfl hq3) ?_
      obtain rfl := inj hc2
      refine JLp (T_pickF rfl hq3 rfl) rfl (nofun) .none ?_
      refine JL_nil ?_
      exact KJ.sub KJ_end (.cons rfl (.cons rfl (.cons rfl (.cons rfl (.nil _)))))
  refine JL_nil ?_
  refine KJ_nrm_then (KJ_J ?_)
  refine J_test rfl (fun hq4 => ?_) (fun hq4 => ?_)
  · replace h := ift hq4 h
    refine J_seq ?_
    refine J_region ?_
    refine JLp (T_build (s' := (⟨0, 0, []⟩ : api_Tree)) bd24 z24 lay_api_Tree .nil) rfl (nofun) .none ?_
    refine JLn1 (T_store ty24 rfl (.mk rfl) (SetF.self lay_api_Tree)) .none ?_
    refine JLp (T_assign rfl) rfl (nofun) .none ?_
    refine JL_nil ?_
    refine KJ_nrm_then (KJ_J ?_)
    refine J_ret ?_
    refine KJ_ret_then ?_
    obtain rfl := inj h
    exact KJ_retnc () [Ent.box b1 r_api_Tree (⟨0, 0, []⟩ : api_Tree)] rfl Try.results30 (.cell ty24 rfl (by simp) (.tmp (.mk rfl) Rv.nil)) rfl (by simp) rfl
  · replace h := iff_ hq4 h
    refine J_skip ?_
    refine KJ_nrm_then (KJ_J ?_)
    refine J_seq ?_
    refine J_seq ?_
    refine J_region ?_
    refine JLp (T_move rfl) rfl (nofun) .none ?_
    refine JLp (T_lss rfl rfl) rfl (nofun) .none ?_
    refine JLp (T_move rfl) rfl (nofun) .none ?_
    replace h := bnd h; obtain ⟨c5, hc5, h⟩ := h
    refine JL_at 3 [(0, (Rep.sl (Rep.arr (Rep.int .u8) 1 8) 8).at a0), (1, (Rep.int .i64).at a1), (4, Rep.ptr.at (b1, 0)), (22, Rep.bool.at c5)] (Ent.box b1 r_api_Tree (⟨0, 0, []⟩ : api_Tree) :: R) ?_ ?_
    · rcases Bool.eq_false_or_eq_true (decide (a1 < 1)) with hq6 | hq6
      · replace hc5 := ift hq6 hc5
        obtain rfl := inj hc5
        refine JLs rfl rfl hq6 rfl ?_
        refine JLs rfl rfl hq6 rfl ?_
        refine JLp (T_pickT rfl hq6 rfl) rfl (nofun) .none ?_
        refine JL_nil ?_
        exact KJ.sub KJ_end (.cons rfl (.cons rfl (.cons rfl (.cons rfl (.nil _)))))
      · replace hc5 := iff_ hq6 hc5
        refine JLp (T_move rfl) rfl (nofun) (.y rfl rfl hq6) ?_
        refine JLp (T_gtr rfl rfl) rfl (nofun) (.y rfl rfl hq6) ?_
        obtain rfl := inj hc5
        refine JLp (T_pickF rfl hq6 rfl) rfl (nofun) .none ?_
        refine JL_nil ?_
        exact KJ.sub KJ_end (.cons rfl (.cons rfl (.cons rfl (.cons rfl (.nil _)))))
    refine JL_nil ?_
    refine KJ_nrm_then (KJ_J ?_)
    refine J_test rfl (fun hq7 => ?_) (fun hq7 => ?_)
    · replace h := ift hq7 h
      refine J_seq ?_
      refine J_region ?_
      refine JLp (T_build (s' := (⟨0, 0, []⟩ : api_Tree)) bd24 z24 lay_api_Tree .nil) rfl (nofun) .none ?_
      refine JLn1 (T_store ty24 rfl (.mk rfl) (SetF.self lay_api_Tree)) .none ?_
      refine JLp (T_assign rfl) rfl (nofun) .none ?_
      refine JL_nil ?_
      refine KJ_nrm_then (KJ_J ?_)
      refine J_ret ?_
      refine KJ_ret_then ?_
      obtain rfl := inj h
      exact KJ_retnc () [Ent.box b1 r_api_Tree (⟨0, 0, []⟩ : api_Tree)] rfl Try.results30 (.cell ty24 rfl (by simp) (.tmp (.mk rfl) Rv.nil)) rfl (by simp) rfl
    · replace h := iff_ hq7 h
      refine J_skip ?_
      refine KJ_nrm_then (KJ_J ?_)
      refine J_seq ?_
      refine J_region ?_
      refine JLp (T_assign rfl) rfl (nofun) .none ?_
      refine JL_nil ?_
      refine KJ_nrm_then (KJ_J ?_)
      refine J_seq ?_
      refine J_seq ?_
      refine J_region ?_
      refine JLp (T_assign rfl) rfl (nofun) .none ?_
      refine JL_nil ?_
      refine KJ_nrm_then (KJ_J ?_)
      refine J_rownil 73 1 (Rep.int .u64) ?_
      replace h := bnd h; obtain ⟨o10, ho11, h⟩ := h
      refine J_cuto o10 (fun (s8 : List Int × Int) (g9 : Value) => [(0, (Rep.sl (Rep.arr (Rep.int .u8) 1 8) 8).at a0), (1, (Rep.int .i64).at a1), (4, Rep.ptr.at (b1, 0)), (6, Rep.slv.at g9)]) (fun s8 g9 => Ent.row g9 73 1 (Rep.int .u64) s8.1 :: Ent.box b1 r_api_Tree (⟨0, 0, []⟩ : api_Tree) :: R) ?_ ?_
      · refine J_block ?_
        refine J_while ho11 (fun (s8 : List Int × Int) (g9 : Value) => [(0, (Rep.sl (Rep.arr (Rep.int .u8) 1 8) 8).at a0), (1, (Rep.int .i64).at a1), (4, Rep.ptr.at (b1, 0)), (6, Rep.slv.at g9), (7, (Rep.int .i64).at s8.2)]) (fun s8 g9 => Ent.row g9 73 1 (Rep.int .u64) s8.1 :: Ent.box b1 r_api_Tree (⟨0, 0, []⟩ : api_Tree) :: R) (.slice none 0 0) (.cons rfl (.cons rfl (.cons rfl (.cons rfl (.cons rfl (.nil _)))))) rfl ?_
        intro s8 g9 st14 hb12 hf13
        refine J_seq ?_
        refine J_seq ?_
        refine J_region ?_
        refine JLp (T_move rfl) rfl (nofun) .none ?_
        refine JLp (T_move rfl) rfl (nofun) .none ?_
        refine JLp (T_len (ρ := (Rep.arr (Rep.int .u8) 1 8)) sl64 (.mk rfl)) rfl (nofun) .none ?_
        refine JLp (T_move rfl) rfl (nofun) .none ?_
        replace hb12 := bnd hb12; obtain ⟨x15, hx15, hb12⟩ := hb12
        refine JLe0 (T_call ⟨_, Try.func58, rfl, rfl⟩ (c_ref11_Leaves hx15) ⟨(.mk rfl), ⟨(.mk rfl), trivial⟩⟩) rfl .none ?_
        refine JLp (T_lss rfl rfl) rfl (nofun) .none ?_
        refine JL_nil ?_
        refine KJ_nrm_then (KJ_J ?_)
        refine J_test rfl (fun hq16 => ?_) (fun hq16 => ?_)
        · replace hb12 := ift hq16 hb12
          refine J_skip ?_
          refine KJ_nrm_then (KJ_J ?_)
          refine J_seq ?_
          refine J_block ?_
          refine J_region ?_
          refine JLp (T_move rfl) rfl (nofun) .none ?_
          refine JLp (T_move rfl) rfl (nofun) .none ?_
          refine JLp (T_move rfl) rfl (nofun) .none ?_
          refine JLp (T_move rfl) rfl (nofun) .none ?_
          replace hb12 := bnd hb12; obtain ⟨x17, hx17, hb12⟩ := hb12
          refine JLe0 (T_call ⟨_, Try.func62, rfl, rfl⟩ (c_ref11_Sectors hx17) ⟨(.mk rfl), ⟨(.mk rfl), ⟨(.mk rfl), trivial⟩⟩⟩) rfl .none ?_
          replace hb12 := bnd hb12; obtain ⟨x18, hx18, hb12⟩ := hb12
          refine JLe0 (T_call ⟨_, Try.func61, rfl, rfl⟩ (c_ref04_Sectors hx18) ⟨(.mk rfl), trivial⟩) rfl .none ?_
          refine JLe0 (T_bslice (ρ := (Rep.int .u64)) sl67 (Lay.int _) (.cons (.mk rfl) .nil) rfl (by decide)) rfl .none ?_
          replace hb12 := bnd hb12; obtain ⟨x19, hx19, hb12⟩ := hb12
          refine JLe1 (T_append sl67 ⟨_, (Lay.int _)⟩ (.mk rfl) (.mk rfl) hx19) rfl .none fun g20 => ?_
          refine JLp (T_assign rfl) rfl (nofun) .none ?_
          refine JL_nil ?_
          refine KJ_nrm_blk ?_
          refine KJ_nrm_then (KJ_J ?_)
          refine J_region ?_
          refine JLp (T_move rfl) rfl (nofun) .none ?_
          refine JLp (T_add rfl rfl) rfl (nofun) .none ?_
          refine JLp (T_assign rfl) rfl (nofun) .none ?_
          refine JL_nil ?_
          refine KJ_nrm_then ?_
          exact KJ_nx (x19, IntKind.i64.wrap (s8.2 + 1)) g20 (inj hb12) (.cons rfl (.cons rfl (.cons rfl (.cons rfl (.cons rfl (.nil _)))))) rfl
        · replace hb12 := iff_ hq16 hb12
          refine J_exit ?_
          refine KJ_exit_then ?_
          refine KJ_exit_then ?_
          refine KJ_exit_here ?_
          refine KJ_nrm_kq ?_
          obtain rfl := inj hb12
          exact KJ_ot (s8.1, s8.2) g9 hf13 (.cons rfl (.cons rfl (.cons rfl (.cons rfl (.nil _))))) rfl
      · intro s8 g9 hs
        subst hs
        replace h := thn h
        refine KJ_nrm_then (KJ_J ?_)
        refine J_seq ?_
        refine J_region ?_
        refine JLp (T_move rfl) rfl (nofun) .none ?_
        refine JLp (T_len (ρ := (Rep.arr (Rep.int .u8) 1 8)) sl64 (.mk rfl)) rfl (nofun) .none ?_
        refine JLp (T_move rfl) rfl (nofun) .none ?_
        refine JLp (T_move rfl) rfl (nofun) .none ?_
        replace h := bnd h; obtain ⟨x21, hx21, h⟩ := h
        refine JL_freeze2 43 6 rfl rfl ?_
        refine JLe0 (T_call ⟨_, Try.func63, rfl, rfl⟩ (c_ref11_tree hx21) ⟨(.mk rfl), ⟨(.mk rfl), ⟨(.mk rfl), trivial⟩⟩⟩) rfl .none ?_
        refine JLn1 (T_store ty24 rfl (.mk rfl) (SetF.self lay_api_Tree)) .none ?_
        refine JLp (T_assign rfl) rfl (nofun) .none ?_
        refine JL_nil ?_
        refine KJ_nrm_then (KJ_J ?_)
        refine J_ret ?_
        obtain rfl := inj h
        exact KJ_retnc () [Ent.box b1 r_api_Tree x21] rfl Try.results30 (.cell ty24 rfl (by simp) (.tmp (.mk rfl) Rv.nil)) rfl (by simp) rfl
end Go.Proofs.Ytogflgcngfghpaa
end
