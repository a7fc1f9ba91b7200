/- The law CompareFinds answers true at every input, and leaves its arguments as they were. No condition. -/
import Derived.ProofKit
import Derived.OpenShut
import Derived.ShutString
import Derived.ChangeOld
import Derived.Below
import Derived.Carry
import Derived.SizedLaws
import Derived.Test.YtogflgcngfghpaaRows
import Derived.Test.YtogflgcngfghpaaK10
section
set_option linter.unusedVariables false
set_option linter.unusedSimpArgs false
namespace Go.J
open Go.RowKit
/-- All that lies in memory when the call begins. -/
def immOf (w : World) : Imm := ⟨fun b o => w.cell? ⟨b, o, none⟩, w.os, w.tape, w.output⟩
/-- .. whole. -/
def Ent.old (w0 : World) : Ent where
  blk := List.range w0.heap.size
  holds I h := ∀ b, b < w0.heap.size → h b = w0.heap[b]?
  ext := fun _ _ h2 k b hb => (h2 b (List.mem_range.2 hb)).trans (k b hb)
  lt := fun k b hb => by
    have hb := List.mem_range.1 hb
    rw [k b hb]; simp [hb]
theorem St.old (w : World) : St (immOf w) [Ent.old w] w :=
  ⟨fun b o v h => h, ⟨rfl, rfl, rfl⟩, fun e he => by obtain rfl := List.mem_singleton.1 he; exact fun b hb => rfl, by simp [Ent.old, List.nodup_range]⟩
theorem Ct.law {P : Program} {f : FuncId} {φs : List Pr} {b : Bool} (hc : Ct P f φs [] (fun _ : Unit => Rep.bool.at b) (fun _ => [])) {vs : List Value} {w : World} (ha : Are (immOf w) vs φs) :
    Calls P f vs.toArray w fun e w' => e = .returned (.bool b) ∧ Below w.heap.size w w' := by
  refine ((callsIn_wide (n := 0)).1 (hc vs w (immOf w) [Ent.old w] ha (St.old w))).mono fun e w' ⟨_, v, I', he, hI, hv, hs⟩ => ?_
  have hv : v = .bool b := hv
  subst hv
  have ho := hs.own (Ent.old w) (by simp)
  refine ⟨he, hs.env.1.trans hI.2.1, hs.env.2.1.trans hI.2.2.1, hs.env.2.2.trans hI.2.2.2, ?_, fun k hk => ho k hk⟩
  rcases Nat.eq_zero_or_pos w.heap.size with h | h
  · omega
  · have h1 := ho (w.heap.size - 1) (by omega)
    have h1 : w'.heap[w.heap.size - 1]? = w.heap[w.heap.size - 1]? := h1
    have h2 : w.heap.size - 1 < w.heap.size := by omega
    rw [Array.getElem?_eq_getElem h2] at h1
    have := (Array.getElem?_eq_some_iff.1 h1).1
    omega
theorem mapM_get {α β : Type} {f : α → Option β} : ∀ {l : List α} {r : List β}, l.mapM f = some r → r.length = l.length ∧ ∀ i (h1 : i < l.length) (h2 : i < r.length), f l[i] = some r[i]
  | [], r, h => by simp at h; subst h; exact ⟨rfl, fun i h1 => absurd h1 (by simp)⟩
  | a :: l, r, h => by
    rw [List.mapM_cons] at h
    simp only [Option.bind_eq_bind, Option.bind_eq_some_iff, Option.pure_def, Option.some.injEq] at h
    obtain ⟨b, hb, r', hr, rfl⟩ := h
    obtain ⟨h1, h2⟩ := mapM_get hr
    refine ⟨by simp [h1], fun i i1 i2 => ?_⟩
    cases i with
    | zero => simpa using hb
    | succ i => simpa using h2 i (by simpa using i1) (by simpa using i2)
def valOf (g : Bool) (cs : List Value) : Value := if g = true then .agg cs.toArray else cs.headD undef
section
variable {α β σ : Type} {P : Program} {T E n m len : Nat} {g : Bool} {ρ : Rep α} {π : Rep β} {Q : α → Prop} {R : β → Prop}
theorem valOf_cells (lay : ρ.Lay n g) {I : Imm} {cs : List Value} {x : α} (h : ρ.rd I (valOf g cs) x) (hn : cs.length = n) : (valOf g cs).cells = cs.toArray := by
  obtain ⟨q1, q2, q3, q4⟩ := Lay.cells lay h
  cases g with
  | true => rfl
  | false =>
    have e := q4 rfl
    have h1 : n = 1 := by rw [e] at q1; simpa using q1.symm
    match cs, hn with
    | [v], _ => exact e
    | [], hn => simp [h1] at hn
    | _ :: _ :: _, hn => simp [h1] at hn
/-- What reads as data reads as a model's value. -/
def OpE (P : Program) (T n : Nat) (g : Bool) (ρ : Rep α) (Q : α → Prop) : Prop :=
  ∀ (H : Type) (enc : TypeId × Value → H) (w : World) (fuel : Nat) (cs : List Value) (d : DataW H) (ps : List MemPlace), DataW.trod enc P w 0 (fun _ => true) true fuel T cs = some (d, ps) →
    (∀ x ∈ DataW.weights P T d, x ≤ reachBytes) → cs.length = n → ∃ x, ρ.rd (immOf w) (valOf g cs) x ∧ Q x
def InK (k : IntKind) (n : Int) : Prop := k.min ≤ n ∧ n ≤ k.max
theorem OpE.int {k : IntKind} (hu : P.underlying T = some (.int k)) : OpE P T 1 false (Rep.int k) (InK k) := fun H enc w fuel cs d ps h _ hn => by
  match fuel, cs, hn with
  | 0, _, _ => simp [DataW.trod] at h
  | fuel + 1, [c], _ =>
    simp only [DataW.trod, hu] at h
    cases c with
    | int k' x =>
      simp at h
      obtain ⟨⟨rfl, hw⟩, _⟩ := h
      exact ⟨x, rfl, by simpa [Lit.wf, InK] using hw⟩
    | _ => simp at h
theorem OpE.bool (hu : P.underlying T = some .bool) : OpE P T 1 false Rep.bool (fun _ => True) := fun H enc w fuel cs d ps h _ hn => by
  match fuel, cs, hn with
  | 0, _, _ => simp [DataW.trod] at h
  | fuel + 1, [c], _ =>
    simp only [DataW.trod, hu] at h
    cases c <;> simp at h
    exact ⟨_, rfl, trivial⟩
theorem OpE.slice (hu : P.underlying T = some (.slice E)) (hE : OpE P E n g ρ Q) (lay : ρ.Lay n g) (hc : P.cellsOf E = n) (hn0 : 0 < n) (hb : 0 < P.bytesOf E) : OpE P T 1 false (ρ.sl n) (fun l => l.length ≤ lim ∧ ∀ x ∈ l, Q x) := fun H enc w fuel cs d ps h hw hn => by
  classical
  match fuel, cs, hn with
  | 0, _, _ => simp [DataW.trod] at h
  | fuel + 1, [c], _ =>
    simp only [DataW.trod, hu] at h
    cases c with
    | slice A len cap =>
      cases A with
      | none =>
        match len, cap, h with
        | 0, 0, _ => exact ⟨[], nil_rd, by simp [lim], fun x hx => by simp at hx⟩
        | _ + 1, _, h => simp at h
        | 0, _ + 1, h => simp at h
      | some a =>
        simp only [Nat.zero_le, true_and, if_true, hc] at h
        split at h
        case isFalse => cases h
        rename_i hcap
        simp only [Option.bind_eq_some_iff, Option.map_eq_some_iff, Prod.mk.injEq] at h
        obtain ⟨elems, he, rest, hr, hd, _⟩ := h
        obtain ⟨e1, e2⟩ := mapM_get he
        obtain ⟨r1, r2⟩ := mapM_get hr
        simp only [List.length_range] at e1 r1
        subst hd
        simp only [DataW.weights, hu, List.length_map, List.mem_cons, List.mem_append] at hw
        have hcapb : (elems.length + rest.length) * P.bytesOf E ≤ reachBytes := hw _ (.inl rfl)
        have hlen : len ≤ lim := by
          have h1 : elems.length + rest.length ≤ (elems.length + rest.length) * P.bytesOf E := Nat.le_mul_of_pos_right _ hb
          have : reachBytes ≤ lim := by decide
          omega
        have hall : ∀ (l : List (DataW H)) d', d' ∈ l → ∀ x ∈ DataW.weights P E d', x ∈ DataW.weightsAll P E l := fun l => by
          induction l with
          | nil => intro d' hd'; simp at hd'
          | cons q l ih =>
            intro d' hd' x hx
            simp only [DataW.weightsAll, List.mem_append]
            rcases List.mem_cons.1 hd' with rfl | hd'
            · exact .inl hx
            · exact .inr (ih d' hd' x hx)
        have hsp0 : 0 < len → a.spot = none := fun hi => by
          have h3 := e2 0 (by simpa using hi) (by omega)
          simp only [List.getElem_range, World.cells?, Nat.zero_le, if_true, Option.bind_eq_some_iff, Nat.zero_mul] at h3
          obtain ⟨cs', hcs, ht⟩ := h3
          obtain ⟨c1, c2⟩ := mapM_get hcs
          simp only [List.length_range] at c1
          have h4 := c2 0 (by simpa using hn0) (by omega)
          have h5 := World.cell?_spot h4
          simpa [Addr.add] using h5
        have hel : ∀ i, i < len → ∃ x, (∃ u, ρ.rd (immOf w) u x ∧ Seg (immOf w) a.block (a.off + i * n) u.cells) ∧ Q x ∧ a.spot = none := fun i hi => by
          have h3 := e2 i (by simpa using hi) (by omega)
          simp only [List.getElem_range, World.cells?, Nat.zero_le, if_true, Option.bind_eq_some_iff] at h3
          obtain ⟨cs', hcs, ht⟩ := h3
          obtain ⟨c1, c2⟩ := mapM_get hcs
          simp only [List.length_range] at c1
          obtain ⟨x, hx, hq⟩ := hE H enc w fuel cs' elems[i].1 elems[i].2 ht (fun y hy => hw y (.inr (.inl (hall _ elems[i].1 (List.mem_map.2 ⟨elems[i], List.getElem_mem _, rfl⟩) y hy)))) c1
          have hsp := hsp0 (by omega)
          refine ⟨x, ⟨valOf g cs', hx, fun j hj => ?_⟩, hq, hsp⟩
          have hv := valOf_cells lay hx c1
          have hj' : j < cs'.length := by rw [hv] at hj; simpa using hj
          have h4 := c2 j (by simpa using (by omega : j < n)) hj'
          simp only [List.getElem_range] at h4
          rw [add_off' hsp] at h4
          simp only [add_off] at h4
          show w.cell? _ = _
          simp only [hv, List.getElem_toArray]
          exact h4
        let l : List α := (List.finRange len).map fun (i : Fin len) => Classical.choose (hel i.1 i.2)
        have hl : l.length = len := by simp [l]
        have hli : ∀ i (h : i < l.length), (∃ u, ρ.rd (immOf w) u l[i] ∧ Seg (immOf w) a.block (a.off + i * n) u.cells) ∧ Q l[i] ∧ a.spot = none := fun i hi => by
          have := Classical.choose_spec (hel i (by omega))
          simpa [l] using this
        refine ⟨l, ⟨some a, cap, by show Value.slice (some a) len cap = _; rw [hl], by omega, by rw [hl]; exact hcap.1, (by intro h; cases h), fun a' ha' => ?_⟩, by omega, fun x hx => ?_⟩
        · simp only [Option.some.injEq] at ha'
          subst ha'
          exact ⟨fun hp => (hli 0 hp).2.2, fun i hi => (hli i hi).1⟩
        · obtain ⟨i, hi, rfl⟩ := List.mem_iff_getElem.1 hx
          exact (hli i hi).2.1
    | _ => simp at h
/-- .. a struct's fields. -/
def OpS (P : Program) (fs : List Field) (off : Nat) (π : Rep β) (R : β → Prop) : Prop :=
  ∀ (H : Type) (enc : TypeId × Value → H) (w : World) (fuel : Nat) (cs : List Value) (xs : List (DataW H × List MemPlace)), (fs.mapM fun f => DataW.trod enc P w 0 (fun _ => true) true fuel f.type ((cs.drop f.offset).take (P.cellsOf f.type))) = some xs →
    (∀ x ∈ DataW.weightsEach P (fs.map (·.type)) (xs.map (·.1)), x ≤ reachBytes) → cs.length = off + (fs.map fun f => P.cellsOf f.type).sum → ∃ y, π.rd (immOf w) (.agg (cs.drop off).toArray) y ∧ R y
theorem OpS.nil {off : Nat} : OpS P [] off Rep.nilS (fun _ => True) := fun H enc w fuel cs xs h hw hn => by
  simp at hn
  refine ⟨(), ?_, trivial⟩
  show Value.agg _ = .agg #[]
  rw [List.drop_eq_nil_of_le (by omega)]
theorem OpS.cons {f : Field} {fs : List Field} {off : Nat} (ho : f.offset = off) (hc : P.cellsOf f.type = n) (hE : OpE P f.type n g ρ Q) (lay : ρ.Lay n g) (hS : OpS P fs (off + n) π R) : OpS P (f :: fs) off (ρ.cons π) (fun y => Q y.1 ∧ R y.2) := fun H enc w fuel cs xs h hw hn => by
  rw [List.mapM_cons] at h
  simp only [Option.bind_eq_bind, Option.bind_eq_some_iff, Option.pure_def, Option.some.injEq] at h
  obtain ⟨x, hx, xs', hxs, rfl⟩ := h
  simp only [List.map_cons, DataW.weightsEach, List.mem_append] at hw
  simp only [List.map_cons, List.sum_cons, hc] at hn
  rw [ho, hc] at hx
  have hlen : ((cs.drop off).take n).length = n := by simp; omega
  obtain ⟨a, ha, hq⟩ := hE H enc w fuel _ x.1 x.2 hx (fun y hy => hw y (.inl hy)) hlen
  obtain ⟨b, hb, hr⟩ := hS H enc w fuel cs xs' hxs (fun y hy => hw y (.inr hy)) (by omega)
  refine ⟨(a, b), ⟨_, _, ha, hb, ?_⟩, hq, hr⟩
  rw [valOf_cells lay ha hlen]
  congr 1
  apply Array.ext'
  simp only [Array.toList_append, List.toList_toArray]
  rw [← List.drop_drop, List.take_append_drop]
theorem OpE.struct {fs : Array Field} {τ : Type} {p : σ → τ} {u : τ → σ} {π : Rep τ} {R : τ → Prop} {Q : σ → Prop} (hu : P.underlying T = some (.struct fs)) (hn : P.cellsOf T = (fs.toList.map fun f => P.cellsOf f.type).sum) (hS : OpS P fs.toList 0 π R) (hpu : ∀ y, p (u y) = y) (hq : ∀ y, R y → Q (u y)) : OpE P T n true (Rep.iso p π) Q := fun H enc w fuel cs d ps h hw hl => by
  match fuel with
  | 0 => simp [DataW.trod] at h
  | fuel + 1 =>
    simp only [DataW.trod, hu] at h
    split at h
    case isFalse => cases h
    rename_i hcs
    simp only [Option.map_eq_some_iff, Prod.mk.injEq] at h
    obtain ⟨xs, hxs, hd, _⟩ := h
    subst hd
    simp only [DataW.weights, hu] at hw
    obtain ⟨y, hy, hr⟩ := hS H enc w fuel cs xs hxs hw (by omega)
    refine ⟨u y, ?_, hq y hr⟩
    show π.rd _ _ (p (u y))
    rw [hpu]
    simpa [valOf] using hy
theorem OpE.arr (hu : P.underlying T = some (.array len E)) (hE : OpE P E n g ρ Q) (lay : ρ.Lay n g) (hc : P.cellsOf E = n) : OpE P T (len * n) true (ρ.arr n len) (fun l => l.length = len ∧ ∀ x ∈ l, Q x) := fun H enc w fuel cs d ps h hw hn => by
  classical
  match fuel with
  | 0 => simp [DataW.trod] at h
  | fuel + 1 =>
    simp only [DataW.trod, hu] at h
    split at h
    case isFalse => cases h
    rename_i hcs
    simp only [Option.map_eq_some_iff, Prod.mk.injEq] at h
    obtain ⟨xs, hxs, hd, _⟩ := h
    subst hd
    simp only [DataW.weights, hu] at hw
    obtain ⟨e1, e2⟩ := mapM_get hxs
    simp only [List.length_range] at e1
    have hall : ∀ (l : List (DataW H)) d', d' ∈ l → ∀ x ∈ DataW.weights P E d', x ∈ DataW.weightsAll P E l := fun l => by
      induction l with
      | nil => intro d' hd'; simp at hd'
      | cons q l ih =>
        intro d' hd' x hx
        simp only [DataW.weightsAll, List.mem_append]
        rcases List.mem_cons.1 hd' with rfl | hd'
        · exact .inl hx
        · exact .inr (ih d' hd' x hx)
    have hel : ∀ i, i < len → ∃ x, ρ.rd (immOf w) (valOf g ((cs.drop (i * n)).take n)) x ∧ Q x := fun i hi => by
      have h3 := e2 i (by simpa using hi) (by omega)
      simp only [List.getElem_range, hc] at h3
      have hin : (i + 1) * n ≤ len * n := Nat.mul_le_mul_right _ hi
      rw [Nat.succ_mul] at hin
      exact hE H enc w fuel _ xs[i].1 xs[i].2 h3 (fun y hy => hw y (hall _ xs[i].1 (List.mem_map.2 ⟨xs[i], List.getElem_mem _, rfl⟩) y hy)) (by simp; omega)
    let l : List α := (List.finRange len).map fun (i : Fin len) => Classical.choose (hel i.1 i.2)
    have hl : l.length = len := by simp [l]
    have hli : ∀ i (h : i < l.length), ρ.rd (immOf w) (valOf g ((cs.drop (i * n)).take n)) l[i] ∧ Q l[i] := fun i hi => by
      have := Classical.choose_spec (hel i (by omega))
      simpa [l] using this
    have hclen : ∀ i, i < len → ((cs.drop (i * n)).take n).length = n := fun i hi => by
      have hin : (i + 1) * n ≤ len * n := Nat.mul_le_mul_right _ hi
      rw [Nat.succ_mul] at hin
      simp; omega
    refine ⟨l, ⟨hl, cs.toArray, rfl, by simpa using hn, fun c hcm => ?_, fun i hi => ⟨_, (hli i hi).1, by rw [valOf_cells lay (hli i hi).1 (hclen i (by omega))]; simpa using hclen i (by omega), fun j hj => ?_⟩⟩, hl, fun x hx => ?_⟩
    · obtain ⟨p, hp, rfl⟩ := List.mem_iff_getElem.1 (by simpa using hcm : c ∈ cs)
      have hn0 : 0 < n := by
        rcases Nat.eq_zero_or_pos n with h | h
        · subst h
          have : cs.length = 0 := by simpa using hn
          omega
        · exact h
      have hi : p / n < len := Nat.div_lt_of_lt_mul (by rw [Nat.mul_comm, ← hn]; exact hp)
      have hj : p % n < n := Nat.mod_lt _ hn0
      have e : p / n * n + p % n = p := Nat.div_add_mod' p n
      have h1 := (hli (p / n) (by omega)).1
      have h2 := (Lay.cells lay h1).2.1
      rw [valOf_cells lay h1 (hclen _ hi)] at h2
      refine h2 cs[p] ?_
      simp only [List.mem_toArray]
      refine List.mem_iff_getElem.2 ⟨p % n, by rw [hclen _ hi]; exact hj, ?_⟩
      simp only [List.getElem_take, List.getElem_drop, e]
    · have hv := valOf_cells lay (hli i hi).1 (hclen i (by omega))
      have hj' : j < n := by rw [hv] at hj; have := hclen i (by omega); simp at hj this; omega
      have hlt : i * n + j < cs.length := by
        have hin : (i + 1) * n ≤ len * n := Nat.mul_le_mul_right _ (by omega : i + 1 ≤ len)
        rw [Nat.succ_mul] at hin; omega
      simp only [hv, List.getElem_toArray, List.getElem?_toArray, List.getElem_take, List.getElem_drop, List.getElem?_eq_getElem hlt]
    · obtain ⟨i, hi, rfl⟩ := List.mem_iff_getElem.1 hx
      exact (hli i hi).2
end
end Go.J
end
section
set_option linter.unusedVariables false
namespace Go.Proofs.Ytogflgcngfghpaa
open Go.J
theorem op5 : OpE Try.prog 5 1 false (Rep.int .u8) (InK .u8) := OpE.int Try.underlying5
theorem op76 : OpE Try.prog 76 8 true (Rep.arr (Rep.int .u8) 1 8) (fun l => l.length = 8 ∧ ∀ x ∈ l, (InK .u8) x) := OpE.arr Try.underlying76 op5 (Lay.int _) (by kernel_rfl)
theorem op64 : OpE Try.prog 64 1 false (Rep.sl (Rep.arr (Rep.int .u8) 1 8) 8) (fun l => l.length ≤ lim ∧ ∀ x ∈ l, (fun l => l.length = 8 ∧ ∀ x ∈ l, (InK .u8) x) x) := OpE.slice Try.underlying64 op76 (Lay.arr (Lay.int _)) (by kernel_rfl) (by decide) (by rw [show Try.prog.bytesOf 76 = 8 by kernel_rfl]; decide)
end Go.Proofs.Ytogflgcngfghpaa
end
section
set_option maxHeartbeats 1000000
set_option linter.unusedVariables false
set_option linter.unusedSimpArgs false
namespace Go.Proofs.Ytogflgcngfghpaa
open Go.J
theorem built_twin {a0 a1 : List (List Int)} {c : Nat} (h1 : a0.length ≠ 0) (h2 : a0.length ≤ 100) (h3 : a1.length = a0.length) (c1 : 1 ≤ c) (c2 : c ≤ 100) : Twin (builtS a0 c) (builtS a1 c) :=
  ⟨built_good h1 h2 c1 c2, built_good (by omega) (by omega) c1 c2, by show (a0.length : Int) = (a1.length : Int); omega, rfl⟩
theorem good_few {t : api_Tree} (h : checkS t = 0) : t.Levels.length ≤ 1000000 := by
  obtain ⟨_, _, _, _, s1, g6, _⟩ := good_levels h
  omega
end Go.Proofs.Ytogflgcngfghpaa
end
section
set_option maxHeartbeats 4000000
set_option linter.unusedVariables false
set_option linter.unusedSimpArgs false
namespace Go.Proofs.Ytogflgcngfghpaa
open Go.J
def f_law44_CompareFinds (a0 : List (List Int)) (a1 : List (List Int)) (a2 : Int) : Option (Bool) :=
 (f_law44_trees a0 a1 a2).bind fun x1 => if (!x1.2.2) = true then (f_law44_awake).bind fun x5 => some x5 else (f_compare_Run x1.1 x1.2.1).bind fun x6 => (f_hashtree_Differ x1.1 x1.2.1).bind fun x7 => (if (!decide (x6.2.2 = 0)) = true then some true else some (!decide (x7.2 = 0))).bind fun c8 => (if c8 = true then some true else (f_slices_Equal_api_Extent_api_Extent x6.1 x7.1).bind fun x12 => some (!x12)).bind fun c10 => if c10 = true then some false else (f_hashtree_Root x1.1).bind fun x14 => (f_hashtree_Root x1.2.1).bind fun x15 => (if (decide (x14 = x15)) = true then some true else some (decide ((x1.1.Levels.length : Int) = 1))).bind fun c16 => (if ((decide (x6.2.1 = 1)) == c16) = true then (f_law44_awake).bind fun x17 => some x17 else some false).bind fun c18 => some c18
theorem c_law44_CompareFinds {a0 : List (List Int)} {a1 : List (List Int)} {a2 : Int} {r : Bool} (h : f_law44_CompareFinds a0 a1 a2 = some r) : Ct Try.prog 9 [(Rep.sl (Rep.arr (Rep.int .u8) 1 8) 8).at a0, (Rep.sl (Rep.arr (Rep.int .u8) 1 8) 8).at a1, (Rep.int .u8).at a2] [] (fun _ : Unit => Rep.bool.at r) (fun _ => []) := by
 refine Ct.mk Try.func9 rfl Try.ntmps9 (by simp) fun I R => ?_
 refine J.drop0 ?_
 unfold f_law44_CompareFinds at h
 refine J_seq ?_
 refine J_region ?_
 refine JLp (T_assign rfl) rfl (nofun) .none ?_
 refine JL_nil ?_
 refine KJ_nrm_then (KJ_J ?_)
 refine J_seq ?_
 refine J_region ?_
 refine JLp (T_move rfl) rfl (nofun) .none ?_
 refine JLp (T_move rfl) rfl (nofun) .none ?_
 refine JLp (T_move rfl) rfl (nofun) .none ?_
 replace h := bnd h; obtain ⟨x1, hx1, h⟩ := h
 refine JLe0 (T_call ⟨_, Try.func26, rfl, rfl⟩ (c_law44_trees hx1) ⟨(.mk rfl), ⟨(.mk rfl), ⟨(.mk rfl), trivial⟩⟩⟩) rfl .none ?_
 refine JLp (T_move rfl) rfl (nofun) .none ?_
 refine JLp (T_extract rfl rfl) rfl (nofun) .none ?_
 refine JLp (T_extract rfl rfl) rfl (nofun) .none ?_
 refine JLp (T_extract rfl rfl) rfl (nofun) .none ?_
 refine JLa (T_alloc z24 lay_api_Tree) rfl .none fun b2 => ?_
 refine JLa (T_alloc z24 lay_api_Tree) rfl .none fun b3 => ?_
 refine JL.perm F1 ?_
 refine JLn1 (T_store ty24 rfl (.mk rfl) (SetF.self lay_api_Tree)) .none ?_
 refine JL.perm F1 ?_
 refine JLn1 (T_store ty24 rfl (.mk rfl) (SetF.self lay_api_Tree)) .none ?_
 refine JLp (T_assign rfl) rfl (nofun) .none ?_
 refine JL_nil ?_
 refine KJ_nrm_then (KJ_J ?_)
 refine J_seq ?_
 refine J_seq ?_
 refine J_region ?_
 refine JLp (T_move rfl) rfl (nofun) .none ?_
 refine JLp (T_not rfl) rfl (nofun) .none ?_
 refine JL_nil ?_
 refine KJ_nrm_then (KJ_J ?_)
 refine J_test rfl (fun hq4 => ?_) (fun hq4 => ?_)
 ·replace h := ift hq4 h
  refine J_seq ?_
  refine J_region ?_
  replace h := bnd h; obtain ⟨x5, hx5, h⟩ := h
  refine JLe0 (T_call ⟨_, Try.func12, rfl, rfl⟩ (c_law44_awake hx5) trivial) rfl .none ?_
  refine JLp (T_assign rfl) rfl (nofun) .none ?_
  refine JL_nil ?_
  refine KJ_nrm_then (KJ_J ?_)
  refine J_ret ?_
  refine KJ_ret_then ?_
  obtain rfl := inj h
  refine KJ.drop1 ?_
  refine KJ.drop1 ?_
  exact KJ_ret1' Try.results9 (.tmp (.mk rfl) Rv.nil) rfl rfl
 ·replace h := iff_ hq4 h
  refine J_skip ?_
  refine KJ_nrm_then (KJ_J ?_)
  refine J_seq ?_
  refine J_region ?_
  refine JLp (T_loadw ty24 rfl) rfl B1 .none ?_
  refine JLp (T_loadw ty24 rfl) rfl B0 .none ?_
  replace h := bnd h; obtain ⟨x6, hx6, h⟩ := h
  refine JLe0 (T_call ⟨_, Try.func21, rfl, rfl⟩ (c_compare_Run hx6) ⟨(.mk rfl), ⟨(.mk rfl), trivial⟩⟩) rfl .none ?_
  refine JLp (T_move rfl) rfl (nofun) .none ?_
  refine JLp (T_extract rfl rfl) rfl (nofun) .none ?_
  refine JLp (T_extract rfl rfl) rfl (nofun) .none ?_
  refine JLp (T_extract rfl rfl) rfl (nofun) .none ?_
  refine JLp (T_assign rfl) rfl (nofun) .none ?_
  refine JLp (T_assign rfl) rfl (nofun) .none ?_
  refine JLp (T_assign rfl) rfl (nofun) .none ?_
  refine JL_nil ?_
  refine KJ_nrm_then (KJ_J ?_)
  refine J_seq ?_
  refine J_region ?_
  refine JLp (T_loadw ty24 rfl) rfl B1 .none ?_
  refine JLp (T_loadw ty24 rfl) rfl B0 .none ?_
  replace h := bnd h; obtain ⟨x7, hx7, h⟩ := h
  refine JLe0 (T_call ⟨_, Try.func28, rfl, rfl⟩ (c_hashtree_Differ hx7) ⟨(.mk rfl), ⟨(.mk rfl), trivial⟩⟩) rfl .none ?_
  refine JLp (T_move rfl) rfl (nofun) .none ?_
  refine JLp (T_extract rfl rfl) rfl (nofun) .none ?_
  refine JLp (T_extract rfl rfl) rfl (nofun) .none ?_
  refine JLp (T_assign rfl) rfl (nofun) .none ?_
  refine JLp (T_assign rfl) rfl (nofun) .none ?_
  refine JL_nil ?_
  refine KJ_nrm_then (KJ_J ?_)
  refine J_seq ?_
  refine J_seq ?_
  refine J_region ?_
  refine JLp (T_move rfl) rfl (nofun) .none ?_
  refine JLp (T_neq rfl rfl) rfl (nofun) .none ?_
  refine JLp (T_move rfl) rfl (nofun) .none ?_
  replace h := bnd h; obtain ⟨c8, hc8, h⟩ := h
  refine JL_at 3 [(7, Rep.ptr.at (b2, 0)), (8, Rep.ptr.at (b3, 0)), (10, (Rep.sl r_api_Extent 2).at x6.1), (11, (Rep.int .i64).at x6.2.1), (13, (Rep.sl r_api_Extent 2).at x7.1), (44, Rep.bool.at c8)] (Ent.box b3 r_api_Tree x1.2.1 :: Ent.box b2 r_api_Tree x1.1 :: R) ?_ ?_
  ·rcases Bool.eq_false_or_eq_true (!decide (x6.2.2 = 0)) with hq9 | hq9
   ·replace hc8 := ift hq9 hc8
    obtain rfl := inj hc8
    refine JLs rfl rfl hq9 rfl ?_
    refine JLs rfl rfl hq9 rfl ?_
    refine JLp (T_pickT rfl hq9 rfl) rfl (nofun) .none ?_
    refine JL_nil ?_
    exact KJ.sub KJ_end (.cons rfl (.cons rfl (.cons rfl (.cons rfl (.cons rfl (.cons rfl (.nil _)))))))
   ·replace hc8 := iff_ hq9 hc8
    refine JLp (T_move rfl) rfl (nofun) (.y rfl rfl hq9) ?_
    refine JLp (T_neq rfl rfl) rfl (nofun) (.y rfl rfl hq9) ?_
    obtain rfl := inj hc8
    refine JLp (T_pickF rfl hq9 rfl) rfl (nofun) .none ?_
    refine JL_nil ?_
    exact KJ.sub KJ_end (.cons rfl (.cons rfl (.cons rfl (.cons rfl (.cons rfl (.cons rfl (.nil _)))))))
  refine JLp (T_move rfl) rfl (nofun) .none ?_
  replace h := bnd h; obtain ⟨c10, hc10, h⟩ := h
  refine JL_at 5 [(7, Rep.ptr.at (b2, 0)), (8, Rep.ptr.at (b3, 0)), (11, (Rep.int .i64).at x6.2.1), (50, Rep.bool.at c10)] (Ent.box b3 r_api_Tree x1.2.1 :: Ent.box b2 r_api_Tree x1.1 :: R) ?_ ?_
  ·rcases Bool.eq_false_or_eq_true c8 with hq11 | hq11
   ·replace hc10 := ift hq11 hc10
    obtain rfl := inj hc10
    refine JLs rfl rfl hq11 rfl ?_
    refine JLs rfl rfl hq11 rfl ?_
    refine JLs rfl rfl hq11 rfl ?_
    refine JLs rfl rfl hq11 rfl ?_
    refine JLp (T_pickT rfl hq11 rfl) rfl (nofun) .none ?_
    refine JL_nil ?_
    exact KJ.sub KJ_end (.cons rfl (.cons rfl (.cons rfl (.cons rfl (.nil _)))))
   ·replace hc10 := iff_ hq11 hc10
    refine JLp (T_move rfl) rfl (nofun) (.y rfl rfl hq11) ?_
    refine JLp (T_move rfl) rfl (nofun) (.y rfl rfl hq11) ?_
    replace hc10 := bnd hc10; obtain ⟨x12, hx12, hc10⟩ := hc10
    refine JLe0 (T_call ⟨_, Try.func25, rfl, rfl⟩ (c_slices_Equal_api_Extent_api_Extent hx12) ⟨(.mk rfl), ⟨(.mk rfl), trivial⟩⟩) rfl (.y rfl rfl hq11) ?_
    refine JLp (T_not rfl) rfl (nofun) (.y rfl rfl hq11) ?_
    obtain rfl := inj hc10
    refine JLp (T_pickF rfl hq11 rfl) rfl (nofun) .none ?_
    refine JL_nil ?_
    exact KJ.sub KJ_end (.cons rfl (.cons rfl (.cons rfl (.cons rfl (.nil _)))))
  refine JL_nil ?_
  refine KJ_nrm_then (KJ_J ?_)
  refine J_test rfl (fun hq13 => ?_) (fun hq13 => ?_)
  ·replace h := ift hq13 h
   refine J_seq ?_
   refine J_region ?_
   refine JLp (T_assign rfl) rfl (nofun) .none ?_
   refine JL_nil ?_
   refine KJ_nrm_then (KJ_J ?_)
   refine J_ret ?_
   refine KJ_ret_then ?_
   obtain rfl := inj h
   refine KJ.drop1 ?_
   refine KJ.drop1 ?_
   exact KJ_ret1' Try.results9 (.tmp (.mk rfl) Rv.nil) rfl rfl
  ·replace h := iff_ hq13 h
   refine J_skip ?_
   refine KJ_nrm_then (KJ_J ?_)
   refine J_seq ?_
   replace h := bnd h; obtain ⟨x14, hx14, h⟩ := h
   replace h := bnd h; obtain ⟨x15, hx15, h⟩ := h
   replace h := bnd h; obtain ⟨c16, hc16, h⟩ := h
   replace h := bnd h; obtain ⟨c18, hc18, h⟩ := h
   refine J_cutN [(6, Rep.bool.at c18)] (Ent.box b3 r_api_Tree x1.2.1 :: Ent.box b2 r_api_Tree x1.1 :: R) ?_ ?_
   ·rcases Bool.eq_false_or_eq_true (decide (x14 = x15)) with hqc16 | hqc16
    ·replace hc16 := ift hqc16 hc16
     obtain rfl := inj hc16
     rcases Bool.eq_false_or_eq_true ((decide (x6.2.1 = 1)) == true) with hqc18 | hqc18
     ·replace hc18 := ift hqc18 hc18
      replace hc18 := bnd hc18; obtain ⟨x17, hx17, hc18⟩ := hc18
      obtain rfl := inj hc18
      refine J_drawR (Ks := []) rfl (by kernel_rfl) fun K hK => ?_
      refine DR.p (.base (t := 11) rfl .nil) (T_move rfl) .none rfl rfl (nofun) ?_
      refine DR.p (.dep 0 0 rfl rfl rfl .nil) (T_eql rfl rfl) .none rfl rfl (nofun) ?_
      refine DR.p (.base (t := 7) rfl .nil) (T_loadw ty24 rfl) .none rfl rfl B1 ?_
      refine DR.e (.dep 2 0 rfl rfl rfl .nil) (T_call ⟨_, Try.func29, rfl, rfl⟩ (c_hashtree_Root hx14) ⟨(.mk rfl), trivial⟩) .none rfl rfl ?_
      refine DR.p (.base (t := 8) rfl .nil) (T_loadw ty24 rfl) .none rfl rfl B0 ?_
      refine DR.e (.dep 4 0 rfl rfl rfl .nil) (T_call ⟨_, Try.func29, rfl, rfl⟩ (c_hashtree_Root hx15) ⟨(.mk rfl), trivial⟩) .none rfl rfl ?_
      refine DR.p (.dep 3 2 rfl rfl rfl (.dep 5 0 rfl rfl rfl .nil)) (T_eql rfl rfl) .none rfl rfl (nofun) ?_
      refine DR.p (.dep 6 0 rfl rfl rfl .nil) (T_move rfl) .none rfl rfl (nofun) ?_
      refine DR.x (.dep 7 0 rfl rfl rfl .nil) rfl rfl hqc16 rfl rfl ?_
      refine DR.x (.dep 7 1 rfl rfl rfl .nil) rfl rfl hqc16 rfl rfl ?_
      refine DR.x (.dep 7 2 rfl rfl rfl .nil) rfl rfl hqc16 rfl rfl ?_
      refine DR.x (.dep 7 3 rfl rfl rfl .nil) rfl rfl hqc16 rfl rfl ?_
      refine DR.p (.dep 7 4 rfl rfl rfl (.dep 11 0 rfl rfl rfl .nil)) (T_pickT rfl hqc16 rfl) .none rfl rfl (nofun) ?_
      refine DR.tail (by kernel_rfl) (.refl _) rfl ?_
      simp only [List.reverse_cons, List.reverse_nil, List.nil_append, List.cons_append, DT]
      refine JLp (T_eqlB Try.underlying4 rfl rfl) rfl (nofun) .none ?_
      refine JLp (T_move rfl) rfl (nofun) .none ?_
      refine JLe0 (T_call ⟨_, Try.func12, rfl, rfl⟩ (c_law44_awake hx17) trivial) rfl (.y rfl rfl hqc18) ?_
      refine JLp (T_pickT rfl hqc18 rfl) rfl (nofun) .none ?_
      refine JLp (T_assign rfl) rfl (nofun) .none ?_
      refine JL_nil (KJ_hid hK ?_)
      exact KJ.sub KJ_end (.cons rfl (.nil _))
     ·replace hc18 := iff_ hqc18 hc18
      obtain rfl := inj hc18
      refine J_drawR (Ks := []) rfl (by kernel_rfl) fun K hK => ?_
      refine DR.p (.base (t := 11) rfl .nil) (T_move rfl) .none rfl rfl (nofun) ?_
      refine DR.p (.dep 0 0 rfl rfl rfl .nil) (T_eql rfl rfl) .none rfl rfl (nofun) ?_
      refine DR.p (.base (t := 7) rfl .nil) (T_loadw ty24 rfl) .none rfl rfl B1 ?_
      refine DR.e (.dep 2 0 rfl rfl rfl .nil) (T_call ⟨_, Try.func29, rfl, rfl⟩ (c_hashtree_Root hx14) ⟨(.mk rfl), trivial⟩) .none rfl rfl ?_
      refine DR.p (.base (t := 8) rfl .nil) (T_loadw ty24 rfl) .none rfl rfl B0 ?_
      refine DR.e (.dep 4 0 rfl rfl rfl .nil) (T_call ⟨_, Try.func29, rfl, rfl⟩ (c_hashtree_Root hx15) ⟨(.mk rfl), trivial⟩) .none rfl rfl ?_
      refine DR.p (.dep 3 2 rfl rfl rfl (.dep 5 0 rfl rfl rfl .nil)) (T_eql rfl rfl) .none rfl rfl (nofun) ?_
      refine DR.p (.dep 6 0 rfl rfl rfl .nil) (T_move rfl) .none rfl rfl (nofun) ?_
      refine DR.x (.dep 7 0 rfl rfl rfl .nil) rfl rfl hqc16 rfl rfl ?_
      refine DR.x (.dep 7 1 rfl rfl rfl .nil) rfl rfl hqc16 rfl rfl ?_
      refine DR.x (.dep 7 2 rfl rfl rfl .nil) rfl rfl hqc16 rfl rfl ?_
      refine DR.x (.dep 7 3 rfl rfl rfl .nil) rfl rfl hqc16 rfl rfl ?_
      refine DR.p (.dep 7 4 rfl rfl rfl (.dep 11 0 rfl rfl rfl .nil)) (T_pickT rfl hqc16 rfl) .none rfl rfl (nofun) ?_
      refine DR.tail (by kernel_rfl) (.refl _) rfl ?_
      simp only [List.reverse_cons, List.reverse_nil, List.nil_append, List.cons_append, DT]
      refine JLp (T_eqlB Try.underlying4 rfl rfl) rfl (nofun) .none ?_
      refine JLp (T_move rfl) rfl (nofun) .none ?_
      refine JLs rfl rfl hqc18 rfl ?_
      refine JLp (T_pickF rfl hqc18 rfl) rfl (nofun) .none ?_
      refine JLp (T_assign rfl) rfl (nofun) .none ?_
      refine JL_nil (KJ_hid hK ?_)
      exact KJ.sub KJ_end (.cons rfl (.nil _))
    ·replace hc16 := iff_ hqc16 hc16
     obtain rfl := inj hc16
     rcases Bool.eq_false_or_eq_true ((decide (x6.2.1 = 1)) == (decide ((x1.1.Levels.length : Int) = 1))) with hqc18 | hqc18
     ·replace hc18 := ift hqc18 hc18
      replace hc18 := bnd hc18; obtain ⟨x17, hx17, hc18⟩ := hc18
      obtain rfl := inj hc18
      refine J_drawR (Ks := []) rfl (by kernel_rfl) fun K hK => ?_
      refine DR.p (.base (t := 11) rfl .nil) (T_move rfl) .none rfl rfl (nofun) ?_
      refine DR.p (.dep 0 0 rfl rfl rfl .nil) (T_eql rfl rfl) .none rfl rfl (nofun) ?_
      refine DR.p (.base (t := 7) rfl .nil) (T_loadw ty24 rfl) .none rfl rfl B1 ?_
      refine DR.e (.dep 2 0 rfl rfl rfl .nil) (T_call ⟨_, Try.func29, rfl, rfl⟩ (c_hashtree_Root hx14) ⟨(.mk rfl), trivial⟩) .none rfl rfl ?_
      refine DR.p (.base (t := 8) rfl .nil) (T_loadw ty24 rfl) .none rfl rfl B0 ?_
      refine DR.e (.dep 4 0 rfl rfl rfl .nil) (T_call ⟨_, Try.func29, rfl, rfl⟩ (c_hashtree_Root hx15) ⟨(.mk rfl), trivial⟩) .none rfl rfl ?_
      refine DR.p (.dep 3 2 rfl rfl rfl (.dep 5 0 rfl rfl rfl .nil)) (T_eql rfl rfl) .none rfl rfl (nofun) ?_
      refine DR.p (.dep 6 0 rfl rfl rfl .nil) (T_move rfl) .none rfl rfl (nofun) ?_
      refine DR.p (.base (t := 7) rfl (.dep 7 0 rfl rfl rfl .nil)) (T_faddr fo24_2 rfl) (.y rfl rfl hqc16) rfl rfl (nofun) ?_
      refine DR.p (.dep 8 0 rfl rfl rfl (.dep 7 1 rfl rfl rfl .nil)) (T_loadb ty22 rfl hf_api_Tree_Levels) (.y rfl rfl hqc16) rfl rfl B1 ?_
      refine DR.p (.dep 9 0 rfl rfl rfl (.dep 7 2 rfl rfl rfl .nil)) (T_len (ρ := (Rep.sl (Rep.int .u64) 1)) sl22 (.mk rfl)) (.y rfl rfl hqc16) rfl rfl (nofun) ?_
      refine DR.p (.dep 10 0 rfl rfl rfl (.dep 7 3 rfl rfl rfl .nil)) (T_eql rfl rfl) (.y rfl rfl hqc16) rfl rfl (nofun) ?_
      refine DR.p (.dep 7 4 rfl rfl rfl (.dep 11 0 rfl rfl rfl .nil)) (T_pickF rfl hqc16 rfl) .none rfl rfl (nofun) ?_
      refine DR.tail (by kernel_rfl) (.refl _) rfl ?_
      simp only [List.reverse_cons, List.reverse_nil, List.nil_append, List.cons_append, DT]
      refine JLp (T_eqlB Try.underlying4 rfl rfl) rfl (nofun) .none ?_
      refine JLp (T_move rfl) rfl (nofun) .none ?_
      refine JLe0 (T_call ⟨_, Try.func12, rfl, rfl⟩ (c_law44_awake hx17) trivial) rfl (.y rfl rfl hqc18) ?_
      refine JLp (T_pickT rfl hqc18 rfl) rfl (nofun) .none ?_
      refine JLp (T_assign rfl) rfl (nofun) .none ?_
      refine JL_nil (KJ_hid hK ?_)
      exact KJ.sub KJ_end (.cons rfl (.nil _))
     ·replace hc18 := iff_ hqc18 hc18
      obtain rfl := inj hc18
      refine J_drawR (Ks := []) rfl (by kernel_rfl) fun K hK => ?_
      refine DR.p (.base (t := 11) rfl .nil) (T_move rfl) .none rfl rfl (nofun) ?_
      refine DR.p (.dep 0 0 rfl rfl rfl .nil) (T_eql rfl rfl) .none rfl rfl (nofun) ?_
      refine DR.p (.base (t := 7) rfl .nil) (T_loadw ty24 rfl) .none rfl rfl B1 ?_
      refine DR.e (.dep 2 0 rfl rfl rfl .nil) (T_call ⟨_, Try.func29, rfl, rfl⟩ (c_hashtree_Root hx14) ⟨(.mk rfl), trivial⟩) .none rfl rfl ?_
      refine DR.p (.base (t := 8) rfl .nil) (T_loadw ty24 rfl) .none rfl rfl B0 ?_
      refine DR.e (.dep 4 0 rfl rfl rfl .nil) (T_call ⟨_, Try.func29, rfl, rfl⟩ (c_hashtree_Root hx15) ⟨(.mk rfl), trivial⟩) .none rfl rfl ?_
      refine DR.p (.dep 3 2 rfl rfl rfl (.dep 5 0 rfl rfl rfl .nil)) (T_eql rfl rfl) .none rfl rfl (nofun) ?_
      refine DR.p (.dep 6 0 rfl rfl rfl .nil) (T_move rfl) .none rfl rfl (nofun) ?_
      refine DR.p (.base (t := 7) rfl (.dep 7 0 rfl rfl rfl .nil)) (T_faddr fo24_2 rfl) (.y rfl rfl hqc16) rfl rfl (nofun) ?_
      refine DR.p (.dep 8 0 rfl rfl rfl (.dep 7 1 rfl rfl rfl .nil)) (T_loadb ty22 rfl hf_api_Tree_Levels) (.y rfl rfl hqc16) rfl rfl B1 ?_
      refine DR.p (.dep 9 0 rfl rfl rfl (.dep 7 2 rfl rfl rfl .nil)) (T_len (ρ := (Rep.sl (Rep.int .u64) 1)) sl22 (.mk rfl)) (.y rfl rfl hqc16) rfl rfl (nofun) ?_
      refine DR.p (.dep 10 0 rfl rfl rfl (.dep 7 3 rfl rfl rfl .nil)) (T_eql rfl rfl) (.y rfl rfl hqc16) rfl rfl (nofun) ?_
      refine DR.p (.dep 7 4 rfl rfl rfl (.dep 11 0 rfl rfl rfl .nil)) (T_pickF rfl hqc16 rfl) .none rfl rfl (nofun) ?_
      refine DR.tail (by kernel_rfl) (.refl _) rfl ?_
      simp only [List.reverse_cons, List.reverse_nil, List.nil_append, List.cons_append, DT]
      refine JLp (T_eqlB Try.underlying4 rfl rfl) rfl (nofun) .none ?_
      refine JLp (T_move rfl) rfl (nofun) .none ?_
      refine JLs rfl rfl hqc18 rfl ?_
      refine JLp (T_pickF rfl hqc18 rfl) rfl (nofun) .none ?_
      refine JLp (T_assign rfl) rfl (nofun) .none ?_
      refine JL_nil (KJ_hid hK ?_)
      exact KJ.sub KJ_end (.cons rfl (.nil _))
   ·refine KJ_nrm_then (KJ_J ?_)
    refine J_ret ?_
    obtain rfl := inj h
    refine KJ.drop1 ?_
    refine KJ.drop1 ?_
    exact KJ_ret1' Try.results9 (.tmp (.mk rfl) Rv.nil) rfl rfl
end Go.Proofs.Ytogflgcngfghpaa
end
section
set_option maxHeartbeats 1000000
set_option linter.unusedVariables false
set_option linter.unusedSimpArgs false
namespace Go.Proofs.Ytogflgcngfghpaa
open Go.J
theorem root_eq {t : api_Tree} (h : checkS t = 0) : f_hashtree_Root t = some (valS t (t.Levels.length - 1) 0) := by
  obtain ⟨q1, q2, q3, q4, s1, g6, g7⟩ := good_levels h
  have htop := shp_top _ _ s1
  unfold f_hashtree_Root
  rw [hcheck_eq (by omega), h]
  simp only [Option.bind_some, decide_true, Bool.not_true, Bool.false_eq_true, if_false]
  rw [w64 (n := (t.Levels.length : Int) - 1) (by omega) (by omega), show (t.Levels.length : Int) - 1 = ((t.Levels.length - 1 : Nat) : Int) by omega, idx_getD (by omega) (by omega) []]
  simp only [Option.bind_some, Int.toNat_natCast]
  rw [idx_getD (by omega) (by rw [htop.2]; decide) 0]
  rfl
theorem first_nodes (t : api_Tree) : nodesS (firstW t).Pending = [0] := rfl
theorem top_d {t1 t2 : api_Tree} (u1 : ∀ l ∈ t1.Levels, ∀ x ∈ l, U64 x) (u2 : ∀ l ∈ t2.Levels, ∀ x ∈ l, U64 x) (h : 1 ≤ t1.Levels.length) : dOf t2 (firstW t1) = [0].filter (df t1 t2 (t1.Levels.length - 1)) := by
  rw [dOf_eq (w := firstW t1) u1 u2, first_nodes]
  have e : (firstW t1).Level.toNat = t1.Levels.length - 1 := by show ((t1.Levels.length : Int) - 1).toNat = _; omega
  rw [e]; rfl
theorem sent_one {t1 t2 : api_Tree} (ht : Twin t1 t2) (u1 : ∀ l ∈ t1.Levels, ∀ x ∈ l, U64 x) (u2 : ∀ l ∈ t2.Levels, ∀ x ∈ l, U64 x) : (runW t2 (t1.Levels.length - 1) (firstW t1)).Sent = 1 ↔ valS t1 (t1.Levels.length - 1) 0 = valS t2 (t1.Levels.length - 1) 0 ∨ t1.Levels.length = 1 := by
  obtain ⟨q1, q2, q3, q4, s1, g6, g7⟩ := good_levels ht.g1
  have htop := shp_top _ _ s1
  have hr := RI.first ht.g1
  have hlv : (firstW t1).Level = (t1.Levels.length : Int) - 1 := rfl
  have hs : sentD (firstW t1) = 1 := rfl
  have hd := top_d u1 u2 htop.1
  cases hk : t1.Levels.length - 1 with
  | zero =>
    have e : runW t2 0 (firstW t1) = (⟨t1, [], 0, foldX (secs t1.Size t1.Leaf (dOf t2 (firstW t1))), sentD (firstW t1), true⟩ : api_Walk) := by
      rw [runW]; unfold moveS; rw [if_pos (by omega)]; rfl
    rw [e]
    exact ⟨fun _ => .inr (by omega), fun _ => hs⟩
  | succ k =>
    rw [hk] at hd
    by_cases hv : valS t1 (k + 1) 0 = valS t2 (k + 1) 0
    · have hdn : dOf t2 (firstW t1) = [] := by
        rw [hd]; simp [df, hv]
      have e : runW t2 (k + 1) (firstW t1) = (⟨t1, [], 0, [], sentD (firstW t1), true⟩ : api_Walk) := by
        rw [runW, if_pos hdn]; unfold moveS; rw [if_neg (by omega), if_pos hdn]; rfl
      rw [e]
      exact ⟨fun _ => .inl hv, fun _ => hs⟩
    · have hdn : dOf t2 (firstW t1) = [0] := by
        rw [hd]; simp [df, hv]
      have hne : dOf t2 (firstW t1) ≠ [] := by rw [hdn]; simp
      have hw : RI t1 (downS (firstW t1) (dOf t2 (firstW t1))) := hr.down (by omega) hne
      have e : runW t2 (k + 1) (firstW t1) = runW t2 k (downS (firstW t1) (dOf t2 (firstW t1))) := by rw [runW, if_neg hne]
      rw [e]
      have hb := (run_bound ht u1 u2 k _ hw (by show (firstW t1).Level - 1 = (k : Int); omega)).1
      have hpn : 1 ≤ (nodesS (downS (firstW t1) (dOf t2 (firstW t1))).Pending).length := by
        have h1 := len_le_nodes hw.op.sep.1
        have h2 : (downS (firstW t1) (dOf t2 (firstW t1))).Pending.length ≠ 0 := fun e => hw.op.pend (List.length_eq_zero_iff.1 e)
        omega
      have h2 : sentD (downS (firstW t1) (dOf t2 (firstW t1))) = 1 + ((nodesS (downS (firstW t1) (dOf t2 (firstW t1))).Pending).length : Int) := rfl
      constructor
      · intro h; omega
      · rintro (h | h)
        · exact absurd h hv
        · omega
theorem law_CompareFinds {a0 a1 : List (List Int)} {a2 : Int} (h0 : (fun l => l.length ≤ lim ∧ ∀ x ∈ l, (fun l => l.length = 8 ∧ ∀ x ∈ l, (InK .u8) x) x) a0) (h1 : (fun l => l.length ≤ lim ∧ ∀ x ∈ l, (fun l => l.length = 8 ∧ ∀ x ∈ l, (InK .u8) x) x) a1) (h2 : (InK .u8) a2) : f_law44_CompareFinds a0 a1 a2 = some true := by
  unfold f_law44_CompareFinds
  rw [awake_true]
  have h2' : (0 : Int) ≤ a2 ∧ a2 ≤ 255 := h2
  rcases trees_eq (fun x hx => (h0.2 x hx).1) (fun x hx => (h1.2 x hx).1) h2' with ⟨t1, t2, e⟩ | ⟨c, c1, c2, n0, n1, n2, e⟩
  · rw [e]; simp
  · rw [e]
    have ht := built_twin n0 n1 n2 c1 c2
    have u0 := built_U64 a0 c
    have u1 := built_U64 a1 c
    have hf := built_few n1 c1
    generalize builtS a0 c = t1 at *
    generalize builtS a1 c = t2 at *
    obtain ⟨_, _, _, _, s1, g6, g7⟩ := good_levels ht.g1
    have htop := shp_top _ _ s1
    have hk : (firstW t1).Level = ((t1.Levels.length - 1 : Nat) : Int) := by show (t1.Levels.length : Int) - 1 = _; omega
    have hfo := run_found u0 u1 (t1.Levels.length - 1) (firstW t1) (RI.first ht.g1) hk
    rw [top_d u0 u1 htop.1] at hfo
    have hso := sent_one ht u0 u1
    have hle := ht.shape.1
    simp only [Option.bind_some, Bool.not_true, Bool.false_eq_true, if_false, run_eq u0 hf (good_few ht.g1) (good_few ht.g2), differ_tree ht, runS_twin ht, root_eq ht.g1, root_eq ht.g2, decide_true]
    have hl := runS_found t1 t2
    rw [runS_twin ht] at hl
    have hl : (runW t2 (t1.Levels.length - 1) (firstW t1)).Found.length ≤ 4096 := hl
    rw [← hfo, equalE_self (by simp only [lim]; omega), ← hle]
    simp only [Option.bind_some, Bool.not_true, Bool.false_eq_true, if_false]
    generalize (runW t2 (t1.Levels.length - 1) (firstW t1)).Sent = S at *
    by_cases hv : valS t1 (t1.Levels.length - 1) 0 = valS t2 (t1.Levels.length - 1) 0
    · have : S = 1 := hso.2 (.inl hv)
      simp [hv, this]
    · by_cases h3 : t1.Levels.length = 1
      · have : S = 1 := hso.2 (.inr h3)
        have h4 : decide ((t1.Levels.length : Int) = 1) = true := decide_eq_true (by omega)
        rw [decide_eq_false hv, h4, decide_eq_true this]
        simp
      · have : S ≠ 1 := fun e => (hso.1 e).elim hv h3
        have h4 : decide ((t1.Levels.length : Int) = 1) = false := decide_eq_false (by omega)
        rw [decide_eq_false hv, h4, decide_eq_false this]
        simp
end Go.Proofs.Ytogflgcngfghpaa
end
section
set_option maxHeartbeats 4000000
set_option linter.unusedVariables false
set_option linter.unusedSimpArgs false
namespace Go.Proofs.Ytogflgcngfghpaa
namespace compareFinds
open Go.J Go.ChangeShapes Go.WideShapes Go.ChangeAt Go.RowKit
open Go.ChangeMaps (open_string shut_string)
theorem own : ownKnob Try.prog.godebug = none := by kernel_rfl
theorem laidOut : laidOutB Try.prog = true := by kernel_rfl
set_option maxRecDepth 100000 in
theorem lifted (os : Os) (started : os.Started) (H : Type) (enc : TypeId × Go.Value → H) :
    ReturnsInHanded {} Try.checked os 9 .any (Rows.compareFindsSpec.pre6 enc Try.prog Try.f9 Rows.compareFindsRow.domain false) (Rows.compareFindsSpec.post enc Try.prog Try.f9 false true false false) := by
  refine returnsInHanded_of_change_sized (C := Try.checked) own started (by kernel_rfl) Try.func9
    (ChangeSpec.witness6 (enc := enc) (C := Try.checked) false ⟨#[], #[.slice none 0 0, .slice none 0 0, .int .u8 0], []⟩ 8 (by kernel_rfl) (by kernel_rfl) (by kernel_rfl) (by kernel_rfl)) ?_
  intro W base args ds gs before hval0 hW hcnd hsz0 _
  have hval : ∀ (j : Nat) t v, Try.f9.params[j]? = some t → args[j]? = some v → Value.okWide Try.prog W .any base t v := hval0
  have hsz : (DataW.weightsEach Try.prog (Try.f9.params.toList ++ Rows.compareFindsSpec.plain.varTypes Try.prog) (ds ++ gs)).all (· ≤ reachBytes) = true := hsz0
  have hW' := hW
  obtain ⟨p, q, hA0, hV, rfl, hfz, hnd⟩ := hW
  have hA : DataW.TrodAll enc Try.prog W 0 (fun _ => true) true Try.f9.params.toList args.toList ds p := hA0
  rw [Try.params9] at hA hval hsz
  obtain ⟨v0, vs0, d0, ds0, p0, q0, hargs, rfl, rfl, h0, r0⟩ := trodAll_cons hA
  obtain ⟨v1, vs1, d1, ds1, p1, q1, rfl, rfl, rfl, h1, r1⟩ := trodAll_cons r0
  obtain ⟨v2, vs2, d2, ds2, p2, q2, rfl, rfl, rfl, h2, r2⟩ := trodAll_cons r1
  obtain ⟨rfl, rfl, rfl⟩ := trodAll_nil r2
  obtain rfl : args = #[v0, v1, v2] := by cases args; simp_all
  obtain ⟨rfl, rfl⟩ := trodVars_none hV
  have k0 := h0
  have lt0 : ∀ x ∈ p0, x.block < W.heap.size := by obtain ⟨m, hm⟩ := k0; exact DataW.trod_lt m _ _ _ hm
  have hw0 : ∀ x ∈ DataW.weights Try.prog 64 d0, x ≤ reachBytes := fun x hx => by
    have := List.all_eq_true.1 hsz x (DataW.weights_mem_each (j := 0) rfl rfl x hx)
    simpa using this
  obtain ⟨a0, len0, cap0, rfl⟩ := okWide_slice Try.underlying64 (hval 0 64 v0 rfl rfl)
  obtain ⟨x0, hx0, q0⟩ : ∃ x, ((Rep.sl (Rep.arr (Rep.int .u8) 1 8) 8)).rd (immOf W) (.slice a0 len0 cap0) x ∧ (fun l => l.length ≤ lim ∧ ∀ x ∈ l, (fun l => l.length = 8 ∧ ∀ x ∈ l, (InK .u8) x) x) x := by
    obtain ⟨fuel, hf⟩ := h0
    exact op64 H enc W fuel _ _ _ hf hw0 rfl
  have k1 := h1
  have lt1 : ∀ x ∈ p1, x.block < W.heap.size := by obtain ⟨m, hm⟩ := k1; exact DataW.trod_lt m _ _ _ hm
  have hw1 : ∀ x ∈ DataW.weights Try.prog 64 d1, x ≤ reachBytes := fun x hx => by
    have := List.all_eq_true.1 hsz x (DataW.weights_mem_each (j := 1) rfl rfl x hx)
    simpa using this
  obtain ⟨a1, len1, cap1, rfl⟩ := okWide_slice Try.underlying64 (hval 1 64 v1 rfl rfl)
  obtain ⟨x1, hx1, q1⟩ : ∃ x, ((Rep.sl (Rep.arr (Rep.int .u8) 1 8) 8)).rd (immOf W) (.slice a1 len1 cap1) x ∧ (fun l => l.length ≤ lim ∧ ∀ x ∈ l, (fun l => l.length = 8 ∧ ∀ x ∈ l, (InK .u8) x) x) x := by
    obtain ⟨fuel, hf⟩ := h1
    exact op64 H enc W fuel _ _ _ hf hw1 rfl
  have k2 := h2
  have lt2 : ∀ x ∈ p2, x.block < W.heap.size := by obtain ⟨m, hm⟩ := k2; exact DataW.trod_lt m _ _ _ hm
  have hw2 : ∀ x ∈ DataW.weights Try.prog 5 d2, x ≤ reachBytes := fun x hx => by
    have := List.all_eq_true.1 hsz x (DataW.weights_mem_each (j := 2) rfl rfl x hx)
    simpa using this
  obtain ⟨x2, rfl, rfl, rfl, w2⟩ := open_int Try.underlying5 (hval 2 5 v2 rfl rfl) h2
  have hx2 : ((Rep.int .u8)).rd (immOf W) (.int .u8 x2) x2 := rfl
  have q2 : (InK .u8) x2 := by simpa [Lit.wf, InK] using w2
  clear hA0 hval0
  refine (Ct.law (vs := [.slice a0 len0 cap0, .slice a1 len1 cap1, .int .u8 x2]) (w := W) (c_law44_CompareFinds (law_CompareFinds q0 q1 q2)) ⟨hx0, ⟨hx1, ⟨hx2, trivial⟩⟩⟩).mono fun e W' ⟨he, bel⟩ => ?_
  subst he
  exact ⟨_, rfl, _, _, _, [], _, [], hW', trodAll_mk1 (shut_bool Try.underlying4 _), (trodAll_cons_mk (Below.trod laidOut (by kernel_rfl) (of_decide_eq_true (by kernel_rfl)) k0 bel lt0) (trodAll_cons_mk (Below.trod laidOut (by kernel_rfl) (of_decide_eq_true (by kernel_rfl)) k1 bel lt1) (trodAll_cons_mk (shut_int Try.underlying5 w2) trodAll_mk0))), rfl, bel.frame _, fun h => by cases h⟩
theorem over : Rows.compareFindsRow.holds Try.pinned (OpenSpec.ofChange Rows.compareFindsSpec) :=
  OpenClaim.holds_of_wide 9 Try.f9 rfl rfl rfl rfl rfl rfl rfl ⟨rfl, rfl, rfl, rfl, rfl⟩ rfl rfl rfl rfl rfl (by kernel_rfl) Try.func9 (by kernel_rfl)
    (of_decide_eq_true (by kernel_rfl)) (by unfold Func.isWrapper; first | (rw [if_pos (by decide +kernel)]; kernel_rfl) | (rw [if_neg (by decide +kernel)]; exact ⟨rfl, rfl⟩))
    (fun os started H enc _ => lifted os started H enc)
/-- The given statement. -/
theorem proved : Rows.CompareFindsSaid := over
end compareFinds
end Go.Proofs.Ytogflgcngfghpaa
end
