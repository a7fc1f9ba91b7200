/- A part of the proof: The words of a small program logic over the machine's wp: what lies unchanged in memory, what is owned, what a frame holds. Holds of every program. No condition. -/
import Derived.TacticsIn
import Derived.RangeFuncLeaves
import Derived.RangeFuncCalls
import Derived.Laws.World
import Derived.Laws.Entries
import Derived.KernelRfl
import Derived.Laws.CopyRow
import Derived.Laws.Cells
import Derived.Laws.Rows
import Derived.Laws.AppendOwn
import Derived.Laws.OwnMore
import Derived.Maps.AppendAt
section
set_option linter.unusedVariables false
set_option linter.unusedSimpArgs false
namespace Go.J
/-- What is known never to change: cells, and the rest of the world. -/
structure Imm where
  c : Nat → Nat → Option Value
  os : Os
  tape : Nat → Question → Nat
  output : Array (Nat × ByteArray)
def Imm.le (I I' : Imm) : Prop := (∀ b o v, I.c b o = some v → I'.c b o = some v) ∧ I'.os = I.os ∧ I'.tape = I.tape ∧ I'.output = I.output
theorem Imm.le.refl (I : Imm) : I.le I := ⟨fun _ _ _ h => h, rfl, rfl, rfl⟩
theorem Imm.le.trans {I J K : Imm} (h : I.le J) (k : J.le K) : I.le K :=
  ⟨fun b o v e => k.1 b o v (h.1 b o v e), k.2.1.trans h.2.1, k.2.2.1.trans h.2.2.1, k.2.2.2.trans h.2.2.2⟩
/-- How a model's value is told of a value. -/
structure Rep (α : Type) where
  rd : Imm → Value → α → Prop
  mono : ∀ {I I' : Imm} {v : Value} {x : α}, I.le I' → rd I v x → rd I' v x
structure Pr where
  p : Imm → Value → Prop
  mono : ∀ {I I' : Imm} {v : Value}, I.le I' → p I v → p I' v
def Rep.at {α : Type} (ρ : Rep α) (x : α) : Pr := ⟨fun I v => ρ.rd I v x, fun h k => ρ.mono h k⟩
def Rep.val : Rep Value := ⟨fun _ v x => v = x, fun _ h => h⟩
/-- a slice's very value -/
def Rep.slv : Rep Value := ⟨fun _ v x => v = x ∧ ∃ A n c, x = .slice A n c, fun _ h => h⟩
def Rep.int (k : IntKind) : Rep Int := ⟨fun _ v x => v = .int k x, fun _ h => h⟩
def Rep.bool : Rep Bool := ⟨fun _ v x => v = .bool x, fun _ h => h⟩
def Rep.str : Rep ByteArray := ⟨fun _ v x => v = .string x, fun _ h => h⟩
def Rep.ptr : Rep (Nat × Nat) := ⟨fun _ v x => v = .pointer (some ⟨x.1, x.2, none⟩), fun _ h => h⟩
/-- These cells lie at this place, for good. -/
def Seg (I : Imm) (b o : Nat) (cs : Array Value) : Prop := ∀ j (h : j < cs.size), I.c b (o + j) = some cs[j]
theorem Seg.mono {I I' : Imm} {b o : Nat} {cs : Array Value} (h : I.le I') (k : Seg I b o cs) : Seg I' b o cs := fun j hj => h.1 _ _ _ (k j hj)
/-- A pointer to a variable that never changes. -/
def Rep.iptr {α : Type} (ρ : Rep α) : Rep α := ⟨fun I v x => ∃ b o u, v = .pointer (some ⟨b, o, none⟩) ∧ ρ.rd I u x ∧ Seg I b o u.cells,
  fun h ⟨b, o, u, e, r, s⟩ => ⟨b, o, u, e, ρ.mono h r, s.mono h⟩⟩
/-- How many cells, and whether they are the parts of a struct or an array. -/
def Rep.Lay {α : Type} (ρ : Rep α) (n : Nat) (agg : Bool) : Prop :=
  ∀ I v x, ρ.rd I v x → if agg = true then ∃ cs : Array Value, v = .agg cs ∧ cs.size = n ∧ ∀ c ∈ cs, c.oneCell' = true else n = 1 ∧ v.oneCell' = true
def lim : Nat := 140737488355328
/-- A slice whose elements never change; n: the cells of an element. -/
def Rep.sl {α : Type} (ρ : Rep α) (n : Nat) : Rep (List α) := ⟨fun I v l => ∃ A c, v = .slice A l.length c ∧ l.length ≤ lim ∧ l.length ≤ c ∧ (A = none → c = 0) ∧
    ∀ a, A = some a → (0 < l.length → a.spot = none) ∧ ∀ i (h : i < l.length), ∃ u, ρ.rd I u l[i] ∧ Seg I a.block (a.off + i * n) u.cells,
  fun h ⟨A, c, e, hl, hc, hn, k⟩ => ⟨A, c, e, hl, hc, hn, fun a ha => ⟨(k a ha).1, fun i hi => let ⟨u, r, s⟩ := (k a ha).2 i hi; ⟨u, ρ.mono h r, s.mono h⟩⟩⟩⟩
/-! ### Frames -/
def lk : List (Nat × Pr) → Nat → Option Pr
  | [], _ => none
  | (t, φ) :: L, u => bif Nat.beq t u then some φ else lk L u
structure Has (N : Nat) (D : List Deferred) (L : List (Nat × Pr)) (I : Imm) (a : Act) : Prop where
  sz : a.tmps.size = N
  df : a.defers = D
  tm : ∀ t φ, lk L t = some φ → ∃ v, a.tmps[t]? = some v ∧ φ.p I v
theorem Has.mono {N : Nat} {D : List Deferred} {L : List (Nat × Pr)} {I I' : Imm} {a : Act} (h : I.le I') (k : Has N D L I a) : Has N D L I' a :=
  ⟨k.sz, k.df, fun t φ e => let ⟨v, e1, e2⟩ := k.tm t φ e; ⟨v, e1, φ.mono h e2⟩⟩
theorem Has.put {N : Nat} {D : List Deferred} {L : List (Nat × Pr)} {I : Imm} {a : Act} {d : Nat} {v : Value} {φ : Pr} (k : Has N D L I a) (hd : Nat.blt d N = true) (hv : φ.p I v) :
    Has N D ((d, φ) :: L) I (a.put (some d) v) := by
  have hd' : d < N := by simpa using hd
  refine ⟨by simp [Act.put, k.sz], by simp [Act.put, k.df], fun t ψ e => ?_⟩
  simp only [lk] at e
  by_cases ht : d = t
  · subst ht
    simp at e
    subst e
    exact ⟨v, by simp [Act.put, k.sz, hd'], hv⟩
  · have hb : Nat.beq d t = false := by cases h : Nat.beq d t with | false => rfl | true => exact absurd (Nat.eq_of_beq_eq_true h) ht
    rw [hb] at e
    obtain ⟨u, e1, e2⟩ := k.tm t ψ e
    exact ⟨u, by simp only [Act.put]; rw [Array.getElem?_setIfInBounds_ne ht]; exact e1, e2⟩
/-- Every fact of M stands in L. -/
def Sub (L M : List (Nat × Pr)) : Prop := ∀ t φ, lk M t = some φ → lk L t = some φ
theorem Has.sub {N : Nat} {D : List Deferred} {L M : List (Nat × Pr)} {I : Imm} {a : Act} (k : Has N D L I a) (h : Sub L M) : Has N D M I a := ⟨k.sz, k.df, fun t φ e => k.tm t φ (h t φ e)⟩
theorem Sub.nil (L : List (Nat × Pr)) : Sub L [] := fun _ _ h => by simp [lk] at h
theorem Sub.cons {L M : List (Nat × Pr)} {t : Nat} {φ : Pr} (h : lk L t = some φ) (k : Sub L M) : Sub L ((t, φ) :: M) := fun u ψ e => by
  simp only [lk] at e
  by_cases ht : t = u
  · subst ht; simp at e; subst e; exact h
  · have hb : Nat.beq t u = false := by cases h : Nat.beq t u with | false => rfl | true => exact absurd (Nat.eq_of_beq_eq_true h) ht
    rw [hb] at e; exact k u ψ e
/-! ### Owned blocks -/
structure Ent where
  blk : List Nat
  holds : Imm → (Nat → Option Obj) → Prop
  ext : ∀ {I I' : Imm} {h h' : Nat → Option Obj}, I.le I' → (∀ b ∈ blk, I'.c b = I.c b) → (∀ b ∈ blk, h' b = h b) → holds I h → holds I' h'
  lt : ∀ {I : Imm} {h : Nat → Option Obj}, holds I h → ∀ b ∈ blk, h b ≠ none
structure St (I : Imm) (O : List Ent) (w : World) : Prop where
  imm : ∀ b o v, I.c b o = some v → w.cell? ⟨b, o, none⟩ = some v
  env : w.os = I.os ∧ w.tape = I.tape ∧ w.output = I.output
  own : ∀ e ∈ O, e.holds I (fun b => w.heap[b]?)
  dis : (O.flatMap Ent.blk).Nodup
theorem St.lt {I : Imm} {O : List Ent} {w : World} (s : St I O w) {e : Ent} (he : e ∈ O) {b : Nat} (hb : b ∈ e.blk) : b < w.heap.size := by
  have := e.lt (s.own e he) b hb
  rcases Nat.lt_or_ge b w.heap.size with h | h
  · exact h
  · exact absurd (Array.getElem?_eq_none h) this
theorem St.imm_lt {I : Imm} {O : List Ent} {w : World} (s : St I O w) {b o : Nat} {v : Value} (h : I.c b o = some v) : b < w.heap.size :=
  World.block_lt_of_cell? w ⟨b, o, none⟩ (s.imm b o v h)
theorem St.drop {I : Imm} {O O' : List Ent} {w : World} (s : St I (O' ++ O) w) : St I O w :=
  ⟨s.imm, s.env, fun e he => s.own e (List.mem_append.2 (.inr he)), by have := s.dis; rw [List.flatMap_append] at this; exact (List.nodup_append.1 this).2.1⟩
theorem St.perm {I : Imm} {O O' : List Ent} {w : World} (h : O.Perm O') (s : St I O w) : St I O' w :=
  ⟨s.imm, s.env, fun e he => s.own e (h.mem_iff.2 he), (h.flatMap_right _).nodup_iff.1 s.dis⟩
theorem St.drew {I : Imm} {O : List Ent} {w : World} (s : St I O w) : St I O { w with drawn := w.drawn + 1 } := ⟨s.imm, s.env, s.own, s.dis⟩
/-- A new block: nothing that is known or owned lies in it. -/
theorem St.alloc {I : Imm} {O : List Ent} {w : World} (s : St I O w) (o : Obj) : St I O (w.alloc o) := by
  refine ⟨fun b p v h => ?_, s.env, fun e he => ?_, s.dis⟩
  · have hb := s.imm_lt h
    rw [World.cell?_alloc_lt w _ _ (show (⟨b, p, none⟩ : Addr).block < w.heap.size from hb)]
    exact s.imm b p v h
  · refine e.ext (Imm.le.refl I) (fun _ _ => rfl) (fun b hb => ?_) (s.own e he)
    have := s.lt he hb
    simp only [World.alloc]
    rw [Array.getElem?_push]
    split
    · omega
    · rfl
end Go.J
end
section
set_option linter.unusedVariables false
set_option linter.unusedSimpArgs false
namespace Go.J
def wide (r : Option Nat) : Fence := { Fence.wide with round := r }
/-! ### Code -/
/-- What stays the same all through a body: the program, whether it is a loop's round, how many temporaries, the deferred calls, and what was known at its start. -/
structure Cx where
  P : Program
  r : Option Nat
  N : Nat
  D : List Deferred
  I : Imm
section
variable {X : Cx}
/-- The frame and the world are told by L and O. -/
def Now (X : Cx) (L : List (Nat × Pr)) (O : List Ent) (a : Act) (w : World) : Prop := ∃ I, X.I.le I ∧ Has X.N X.D L I a ∧ St I O w
def J (X : Cx) (c : Code) (Q : Exit → Act → World → Prop) (L : List (Nat × Pr)) (O : List Ent) : Prop :=
  ∀ a w, Now X L O a w → c.wpIn (wide X.r) 0 X.P Q a w
/-- What is asked where the code goes on. -/
def KJ (X : Cx) (K : Act → World → Prop) (L : List (Nat × Pr)) (O : List Ent) : Prop := ∀ a w, Now X L O a w → K a w
def JL (X : Cx) (ops : Array Oper) (l : List Oper) (K : Act → World → Prop) (L : List (Nat × Pr)) (O : List Ent) : Prop :=
  ∀ a w Q, (∀ a w, K a w → Q .normal a w) → Now X L O a w → wpListIn (wide X.r) 0 X.P ops Q l a w
/-- The ways out of a piece of code. -/
def Then (K : Act → World → Prop) (Q : Exit → Act → World → Prop) : Exit → Act → World → Prop := Exit.then K Q
def Blk (id : Nat) (K : Act → World → Prop) (Q : Exit → Act → World → Prop) : Exit → Act → World → Prop
  | .normal => K
  | .exit i => if i = id then K else Q (.exit i)
  | e => Q e
variable {L M : List (Nat × Pr)} {O O' : List Ent} {Q : Exit → Act → World → Prop} {K : Act → World → Prop}
theorem Now.sub {a : Act} {w : World} (h : Now X L O a w) (k : Sub L M) : Now X M O a w := let ⟨I, x, y, z⟩ := h; ⟨I, x, y.sub k, z⟩
theorem Now.perm {a : Act} {w : World} (h : Now X L O a w) (k : O.Perm O') : Now X L O' a w := let ⟨I, x, y, z⟩ := h; ⟨I, x, y, z.perm k⟩
theorem Now.drop {a : Act} {w : World} (h : Now X L (O' ++ O) a w) : Now X L O a w := let ⟨I, x, y, z⟩ := h; ⟨I, x, y, z.drop⟩
theorem J.sub {c : Code} (h : J X c Q M O) (k : Sub L M) : J X c Q L O := fun a w h1 => h a w (h1.sub k)
theorem J.drop {c : Code} (h : J X c Q L O) : J X c Q L (O' ++ O) := fun a w h1 => h a w h1.drop
theorem J.perm {c : Code} (k : O.Perm O') (h : J X c Q L O') : J X c Q L O := fun a w h1 => h a w (h1.perm k)
theorem KJ.sub (h : KJ X K M O) (k : Sub L M) : KJ X K L O := fun a w h1 => h a w (h1.sub k)
theorem KJ.perm (k : O.Perm O') (h : KJ X K L O') : KJ X K L O := fun a w h1 => h a w (h1.perm k)
theorem KJ.drop (h : KJ X K L O) : KJ X K L (O' ++ O) := fun a w h1 => h a w h1.drop
theorem JL.sub {ops : Array Oper} {l : List Oper} (h : JL X ops l K M O) (k : Sub L M) : JL X ops l K L O := fun a w Q hQ h1 => h a w Q hQ (h1.sub k)
theorem JL.perm {ops : Array Oper} {l : List Oper} (k : O.Perm O') (h : JL X ops l K L O') : JL X ops l K L O := fun a w Q hQ h1 => h a w Q hQ (h1.perm k)
theorem JL.drop {ops : Array Oper} {l : List Oper} (h : JL X ops l K L O) : JL X ops l K L (O' ++ O) := fun a w Q hQ h1 => h a w Q hQ h1.drop
theorem KJ.drop1 {e : Ent} (h : KJ X K L O) : KJ X K L (e :: O) := KJ.drop (O' := [e]) h
theorem J.drop1 {c : Code} {e : Ent} (h : J X c Q L O) : J X c Q L (e :: O) := J.drop (O' := [e]) h
theorem JL.drop1 {ops : Array Oper} {l : List Oper} {e : Ent} (h : JL X ops l K L O) : JL X ops l K L (e :: O) := JL.drop (O' := [e]) h
theorem J_seq {x y : Code} (h : J X x (Then (fun a w => y.wpIn (wide X.r) 0 X.P Q a w) Q) L O) : J X (.seq x y) Q L O :=
  fun a w h1 => wpIn_seq (h a w h1)
theorem KJ_J {c : Code} (h : J X c Q L O) : KJ X (fun a w => c.wpIn (wide X.r) 0 X.P Q a w) L O := h
theorem J_skip (h : KJ X (Q .normal) L O) : J X .skip Q L O := fun a w h1 => wpIn_skip (h a w h1)
theorem J_label {l : Nat} (h : KJ X (Q .normal) L O) : J X (.label l) Q L O := fun a w h1 => wpIn_label (h a w h1)
theorem J_exit {id : Nat} (h : KJ X (Q (.exit id)) L O) : J X (.exit id) Q L O := fun a w h1 => wpIn_exit (h a w h1)
theorem J_ret (h : KJ X (Q .ret) L O) : J X .ret Q L O := fun a w h1 => wpIn_ret (h a w h1)
theorem Blk_in {id : Nat} (e : Exit) (a : Act) (w : World) (q : Blk id (Q .normal) Q e a w) : Exit.inBlock id Q e a w := by
  cases e with
  | exit i =>
    simp only [Blk] at q
    simp only [Exit.inBlock]
    by_cases h : i = id
    · rw [if_pos h] at q ⊢; exact q
    · rw [if_neg h] at q ⊢; exact q
  | _ => exact q
theorem J_block {id : Nat} {c : Code} (h : J X c (Blk id (Q .normal) Q) L O) : J X (.block id c) Q L O := fun a w h1 =>
  wpIn_block (wpIn_mono (h a w h1) Blk_in)
theorem KJ_nrm_then (h : KJ X K L O) : KJ X (Then K Q .normal) L O := h
theorem KJ_nrm_blk {id : Nat} (h : KJ X K L O) : KJ X (Blk id K Q .normal) L O := h
theorem KJ_exit_then {id : Nat} (h : KJ X (Q (.exit id)) L O) : KJ X (Then K Q (.exit id)) L O := h
theorem KJ_exit_here {id : Nat} (h : KJ X K L O) : KJ X (Blk id K Q (.exit id)) L O := fun a w h1 => by
  simp only [Blk, if_true]; exact h a w h1
theorem KJ_exit_up {id j : Nat} (hj : Nat.beq id j = false) (h : KJ X (Q (.exit id)) L O) : KJ X (Blk j K Q (.exit id)) L O := fun a w h1 => by
  have : id ≠ j := fun e => by subst e; simp at hj
  simp only [Blk, if_neg this]; exact h a w h1
theorem KJ_ret_then (h : KJ X (Q .ret) L O) : KJ X (Then K Q .ret) L O := h
theorem KJ_ret_blk {id : Nat} (h : KJ X (Q .ret) L O) : KJ X (Blk id K Q .ret) L O := h
/-- A test. -/
theorem J_cond {c : Operand} {x y : Code} {b : Bool} (hc : ∀ I a, Has X.N X.D L I a → a.eval c = .bool b) (h : J X (if b then x else y) Q L O) : J X (.cond c x y) Q L O :=
  fun a w h1 => wpIn_cond (let ⟨I, _, y, _⟩ := h1; hc I a y) (h a w h1)
theorem least (p : Nat → Prop) (h : ∃ k, p k) : ∃ k, p k ∧ ∀ j, p j → k ≤ j := by
  obtain ⟨k, hk⟩ := h
  induction k using Nat.strongRecOn with
  | _ k ih =>
    by_cases h : ∃ j, j < k ∧ p j
    · obtain ⟨j, hj, hp⟩ := h; exact ih j hj hp
    · exact ⟨k, hk, fun j hp => Nat.le_of_not_lt fun hl => h ⟨j, hl, hp⟩⟩
/-- A loop, with the number of rounds that are left at most. -/
theorem J_loop_fuel {c : Code} (Inv : Nat → Act → World → Prop) (h0 : ∀ a w, Now X L O a w → ∃ k, Inv k a w)
    (round : ∀ k a w, Inv k a w → c.wpIn (wide X.r) 0 X.P (Then (fun a' w' => ∃ j, j < k ∧ Inv j a' w') Q) a w) : J X (.loop c) Q L O := by
  intro a w h1
  classical
  let μ : Act → World → Nat := fun a w => if h : ∃ k, Inv k a w then Classical.choose (least _ h) else 0
  refine wpIn_loop (fun a w => ∃ k, Inv k a w) μ (h0 a w h1) (fun a w hI => ?_)
  have hk := Classical.choose_spec (least _ hI)
  refine wpIn_mono (round _ a w hk.1) (fun e a' w' q => ?_)
  cases e with
  | normal =>
    obtain ⟨j, hj, hI'⟩ := q
    refine ⟨⟨j, hI'⟩, ?_⟩
    have h3 : ∃ k, Inv k a' w' := ⟨j, hI'⟩
    show μ a' w' < μ a w
    simp only [μ, dif_pos h3, dif_pos hI]
    exact Nat.lt_of_le_of_lt ((Classical.choose_spec (least _ h3)).2 j hI') hj
  | _ => exact q
theorem J_region {id : Nat} {l : List Oper} (h : JL X l.toArray l (Q .normal) L O) : J X (.region id l.toArray false) Q L O := fun a w h1 =>
  wpIn_region_lit (h a w Q (fun _ _ q => q) h1)
theorem JL_nil {ops : Array Oper} (h : KJ X K L O) : JL X ops [] K L O := fun a w Q hQ h1 => wpListIn_nil (hQ a w (h a w h1))
theorem KJ_end : KJ X (Now X L O) L O := fun a w h1 => h1
end
/-! ### Operations -/
def lkO (L : List (Nat × Pr)) : Operand → Option Pr
  | .tmp t => lk L t
  | .const (.int k n) => some ((Rep.int k).at n)
  | .const (.bool b) => some (Rep.bool.at b)
  | .const (.string s) => some (Rep.str.at s)
  | .const (.slice A n c) => some (Rep.slv.at (.slice A n c))
  | .const v => some (Rep.val.at v)
  | .func f => some (Rep.val.at (.func (.func f) #[] #[]))
  | .global _ => none
theorem lkO_ok {N : Nat} {D : List Deferred} {L : List (Nat × Pr)} {I : Imm} {a : Act} (k : Has N D L I a) {x : Operand} {φ : Pr} (h : lkO L x = some φ) : φ.p I (a.eval x) := by
  cases x with
  | tmp t =>
    obtain ⟨v, e1, e2⟩ := k.tm t φ h
    have : a.eval (.tmp t) = v := by simp [Act.eval, Array.getD_eq_getD_getElem?, e1]
    rw [this]; exact e2
  | const v => cases v <;> simp only [lkO, Option.some.injEq] at h <;> subst h <;> first | rfl | exact ⟨rfl, _, _, _, rfl⟩
  | func f => simp only [lkO, Option.some.injEq] at h; subst h; rfl
  | global g => simp [lkO] at h
/-- An operation that computes or reads: it leaves the world alone. B: what is owned that it reads. -/
def Tp (P : Program) (o : Oper) (L : List (Nat × Pr)) (B : List Ent) (φ : Pr) : Prop :=
  (∀ c, o.op ≠ .defer c) ∧ ∀ N D a w I O, Has N D L I a → (∀ e ∈ B, e ∈ O) → St I O w → ∃ v, (execOp a.eval o).run P w = .ok (.value v) w ∧ φ.p I v
/-- An operation that makes or writes. -/
def Te (P : Program) (o : Oper) (L : List (Nat × Pr)) (κ : List Ent) {ι : Type} (φ : ι → Pr) (ε : ι → List Ent) : Prop :=
  ∀ r N D a w I R (next : Act → World → Prop) (Q : Exit → Act → World → Prop), Has N D L I a → St I (κ ++ R) w →
    (∀ i v I' w', I.le I' → (φ i).p I' v → St I' (ε i ++ R) w' → next (a.put o.dst v) w') → o.wpIn (wide r) 0 P a w next Q
/-- Is an operation wanted? -/
inductive Gd (ops : Array Oper) (L : List (Nat × Pr)) : Option (Nat × Bool) → Prop
  | none : Gd ops L none
  | yes {j t : Nat} {b : Bool} (h1 : (ops[j]?).bind (·.dst) = some t) (h2 : lk L t = some (Rep.bool.at b)) : Gd ops L (some (j, b))
theorem Gd.wanted {ops : Array Oper} {L : List (Nat × Pr)} {N : Nat} {D : List Deferred} {I : Imm} {a : Act} {o : Oper} (h : Gd ops L o.guard) (k : Has N D L I a) : Region.wanted o (yielded ops a.tmps) = true := by
  unfold Region.wanted
  generalize o.guard = g at h
  cases h with
  | none => rfl
  | yes h1 h2 =>
    obtain ⟨v, e1, e2⟩ := k.tm _ _ h2
    have e2 : v = .bool _ := e2
    subst e2
    simp [yielded, h1, e1]
theorem Gd.unwanted {ops : Array Oper} {L : List (Nat × Pr)} {N : Nat} {D : List Deferred} {I : Imm} {a : Act} {o : Oper} {j t : Nat} {b b' : Bool} (hg : o.guard = some (j, b)) (h1 : (ops[j]?).bind (·.dst) = some t)
    (h2 : lk L t = some (Rep.bool.at b')) (hb : b' ≠ b) (k : Has N D L I a) : Region.wanted o (yielded ops a.tmps) = false := by
  unfold Region.wanted
  rw [hg]
  obtain ⟨v, e1, e2⟩ := k.tm _ _ h2
  have e2 : v = .bool _ := e2
  subst e2
  simp [yielded, h1, e1, hb]
section
variable {X : Cx} {ops : Array Oper} {L : List (Nat × Pr)} {K : Act → World → Prop} {O : List Ent} {rest : List Oper} {d : Nat} {op : Op} {ty : TypeId} {pos : String} {aft : Array Edge} {g : Option (Nat × Bool)}
/-- One step that computes or reads. -/
theorem JLp {B : List Ent} {φ : Pr} (h : Tp X.P ⟨some d, op, ty, pos, aft, g⟩ L B φ) (hd : Nat.blt d X.N = true) (hB : ∀ e ∈ B, e ∈ O) (hg : Gd ops L g) (k : JL X ops rest K ((d, φ) :: L) O) :
    JL X ops (⟨some d, op, ty, pos, aft, g⟩ :: rest) K L O := fun a w Q hQ ⟨I, h0, h1, h2⟩ => by
  obtain ⟨v, e, hv⟩ := h.2 X.N X.D a w I O h1 hB h2
  simp only [wpListIn, Gd.wanted (o := ⟨some d, op, ty, pos, aft, g⟩) hg h1, if_true]
  refine ⟨fun _ _ => trivial, ?_⟩
  rw [Oper.semAt_eq _ _ _ h.1, e]
  exact k _ w Q hQ ⟨I, h0, h1.put hd hv, h2⟩
/-- One step that makes or writes, and yields a value. -/
theorem JLe {κ : List Ent} {ι : Type} {φ : ι → Pr} {ε : ι → List Ent} (h : Te X.P ⟨some d, op, ty, pos, aft, g⟩ L κ φ ε) (hd : Nat.blt d X.N = true) (hg : Gd ops L g)
    (k : ∀ i, JL X ops rest K ((d, φ i) :: L) (ε i ++ O)) : JL X ops (⟨some d, op, ty, pos, aft, g⟩ :: rest) K L (κ ++ O) := fun a w Q hQ ⟨I, h0, h1, h2⟩ => by
  simp only [wpListIn, Gd.wanted (o := ⟨some d, op, ty, pos, aft, g⟩) hg h1, if_true]
  exact h X.r X.N X.D a w I O _ Q h1 h2 fun i v I' w' hI hv hs => k i _ w' Q hQ ⟨I', h0.trans hI, (h1.mono hI).put hd hv, hs⟩
/-- .. and yields none. -/
theorem JLn {κ : List Ent} {ι : Type} {φ : ι → Pr} {ε : ι → List Ent} (h : Te X.P ⟨none, op, ty, pos, aft, g⟩ L κ φ ε) (hg : Gd ops L g)
    (k : ∀ i, JL X ops rest K L (ε i ++ O)) : JL X ops (⟨none, op, ty, pos, aft, g⟩ :: rest) K L (κ ++ O) := fun a w Q hQ ⟨I, h0, h1, h2⟩ => by
  simp only [wpListIn, Gd.wanted (o := ⟨none, op, ty, pos, aft, g⟩) hg h1, if_true]
  exact h X.r X.N X.D a w I O _ Q h1 h2 fun i v I' w' hI hv hs => k i _ w' Q hQ ⟨I', h0.trans hI, h1.mono hI, hs⟩
def Pr.top : Pr := ⟨fun _ _ => True, fun _ _ => trivial⟩
end
/-! ### Numbers and truth values -/
section
variable {P : Program} {L : List (Nat × Pr)} {d : Option Nat} {ty : TypeId} {pos : String} {aft : Array Edge} {g : Option (Nat × Bool)} {x y : Operand} {k : IntKind} {m n : Int} {t t' : TypeId} {φ : Pr} {p q : Bool}
theorem T_move (h : lkO L x = some φ) : Tp P ⟨d, .move x, ty, pos, aft, g⟩ L [] φ :=
  ⟨(nofun), fun N D a w I O h1 _ _ => ⟨_, rfl, lkO_ok h1 h⟩⟩
theorem T_assign (h : lkO L x = some φ) : Tp P ⟨d, .assign x, ty, pos, aft, g⟩ L [] φ :=
  ⟨(nofun), fun N D a w I O h1 _ _ => ⟨_, rfl, lkO_ok h1 h⟩⟩
theorem lkI {N : Nat} {D : List Deferred} {I : Imm} {a : Act} (h1 : Has N D L I a) (h : lkO L x = some ((Rep.int k).at m)) : a.eval x = .int k m := lkO_ok h1 h
theorem lkB {N : Nat} {D : List Deferred} {I : Imm} {a : Act} (h1 : Has N D L I a) (h : lkO L x = some (Rep.bool.at p)) : a.eval x = .bool p := lkO_ok h1 h
theorem T_bin {op : BinOp} {φ : Pr} (h1 : lkO L x = some ((Rep.int k).at m)) (h2 : lkO L y = some ((Rep.int k).at n))
    (h : ∀ w I, ∃ v, (binOp op t (.int k m) (.int k n)).run P w = .ok v w ∧ φ.p I v) : Tp P ⟨d, .binOp op t x y t', ty, pos, aft, g⟩ L [] φ :=
  ⟨(nofun), fun N D a w I O hh _ _ => by
    obtain ⟨v, e, hv⟩ := h w I
    refine ⟨v, ?_, hv⟩
    have e1 := lkI hh h1
    have e2 := lkI hh h2
    simp only [execOp, e1, e2]
    have hq : (eqGuard op t x y (.int k m) (.int k n)) = pure () := by unfold eqGuard; split <;> rfl
    rw [hq]
    show (((binOp op t (.int k m) (.int k n)) >>= fun v => pure (Next.value v)) : Sem Next).run P w = _
    rw [Sem.run_bind, e]; rfl⟩
theorem T_add (h1 : lkO L x = some ((Rep.int k).at m)) (h2 : lkO L y = some ((Rep.int k).at n)) : Tp P ⟨d, .binOp .add t x y t', ty, pos, aft, g⟩ L [] ((Rep.int k).at (k.wrap (m + n))) :=
  T_bin h1 h2 fun w I => ⟨_, by simp [binOp, Op.intArith], rfl⟩
theorem T_sub (h1 : lkO L x = some ((Rep.int k).at m)) (h2 : lkO L y = some ((Rep.int k).at n)) : Tp P ⟨d, .binOp .sub t x y t', ty, pos, aft, g⟩ L [] ((Rep.int k).at (k.wrap (m - n))) :=
  T_bin h1 h2 fun w I => ⟨_, by simp [binOp, Op.intArith], rfl⟩
theorem T_mul (h1 : lkO L x = some ((Rep.int k).at m)) (h2 : lkO L y = some ((Rep.int k).at n)) : Tp P ⟨d, .binOp .mul t x y t', ty, pos, aft, g⟩ L [] ((Rep.int k).at (k.wrap (m * n))) :=
  T_bin h1 h2 fun w I => ⟨_, by simp [binOp, Op.intArith], rfl⟩
theorem T_quo (h1 : lkO L x = some ((Rep.int k).at m)) (h2 : lkO L y = some ((Rep.int k).at n)) (h : n ≠ 0) : Tp P ⟨d, .binOp .quo t x y t', ty, pos, aft, g⟩ L [] ((Rep.int k).at (k.wrap (m.tdiv n))) :=
  T_bin h1 h2 fun w I => ⟨_, by simp [binOp, Op.intDiv, h], rfl⟩
theorem T_rem (h1 : lkO L x = some ((Rep.int k).at m)) (h2 : lkO L y = some ((Rep.int k).at n)) (h : n ≠ 0) : Tp P ⟨d, .binOp .rem t x y t', ty, pos, aft, g⟩ L [] ((Rep.int k).at (m.tmod n)) :=
  T_bin h1 h2 fun w I => ⟨_, by simp [binOp, Op.intDiv, h], rfl⟩
theorem T_eql (h1 : lkO L x = some ((Rep.int k).at m)) (h2 : lkO L y = some ((Rep.int k).at n)) : Tp P ⟨d, .binOp .eql t x y t', ty, pos, aft, g⟩ L [] (Rep.bool.at (decide (m = n))) :=
  T_bin h1 h2 fun w I => ⟨_, by simp [binOp, Op.intCmp]; rfl, by show Value.bool _ = .bool _; congr 1⟩
theorem T_neq (h1 : lkO L x = some ((Rep.int k).at m)) (h2 : lkO L y = some ((Rep.int k).at n)) : Tp P ⟨d, .binOp .neq t x y t', ty, pos, aft, g⟩ L [] (Rep.bool.at (!decide (m = n))) :=
  T_bin h1 h2 fun w I => ⟨_, by simp [binOp, Op.intCmp]; rfl, by show Value.bool _ = .bool _; congr 1⟩
theorem T_lss (h1 : lkO L x = some ((Rep.int k).at m)) (h2 : lkO L y = some ((Rep.int k).at n)) : Tp P ⟨d, .binOp .lss t x y t', ty, pos, aft, g⟩ L [] (Rep.bool.at (decide (m < n))) :=
  T_bin h1 h2 fun w I => ⟨_, by simp [binOp, Op.intCmp], rfl⟩
theorem T_leq (h1 : lkO L x = some ((Rep.int k).at m)) (h2 : lkO L y = some ((Rep.int k).at n)) : Tp P ⟨d, .binOp .leq t x y t', ty, pos, aft, g⟩ L [] (Rep.bool.at (decide (m ≤ n))) :=
  T_bin h1 h2 fun w I => ⟨_, by simp [binOp, Op.intCmp], rfl⟩
theorem T_gtr (h1 : lkO L x = some ((Rep.int k).at m)) (h2 : lkO L y = some ((Rep.int k).at n)) : Tp P ⟨d, .binOp .gtr t x y t', ty, pos, aft, g⟩ L [] (Rep.bool.at (decide (n < m))) :=
  T_bin h1 h2 fun w I => ⟨_, by simp [binOp, Op.intCmp], rfl⟩
theorem T_geq (h1 : lkO L x = some ((Rep.int k).at m)) (h2 : lkO L y = some ((Rep.int k).at n)) : Tp P ⟨d, .binOp .geq t x y t', ty, pos, aft, g⟩ L [] (Rep.bool.at (decide (n ≤ m))) :=
  T_bin h1 h2 fun w I => ⟨_, by simp [binOp, Op.intCmp], rfl⟩
def shrI (k : IntKind) (m n : Int) : Option Int := if 0 ≤ n then some (m.fdiv (2 ^ (min n.toNat k.bits))) else none
def shlI (k : IntKind) (m n : Int) : Option Int := if 0 ≤ n then some (k.wrap (m * 2 ^ (min n.toNat k.bits))) else none
def quoI (k : IntKind) (m n : Int) : Option Int := if n = 0 then none else some (k.wrap (m.tdiv n))
def xorI (k : IntKind) (m n : Int) : Int := k.wrap (BitVec.ofInt k.bits m ^^^ BitVec.ofInt k.bits n).toNat
theorem T_binS {op : BinOp} {k' : IntKind} {φ : Pr} (h1 : lkO L x = some ((Rep.int k).at m)) (h2 : lkO L y = some ((Rep.int k').at n))
    (h : ∀ w I, ∃ v, (binOp op t (.int k m) (.int k' n)).run P w = .ok v w ∧ φ.p I v) : Tp P ⟨d, .binOp op t x y t', ty, pos, aft, g⟩ L [] φ :=
  ⟨(nofun), fun N D a w I O hh _ _ => by
    obtain ⟨v, e, hv⟩ := h w I
    refine ⟨v, ?_, hv⟩
    have e1 := lkI hh h1
    have e2 := lkI hh h2
    simp only [execOp, e1, e2]
    have hq : (eqGuard op t x y (.int k m) (.int k' n)) = pure () := by unfold eqGuard; split <;> rfl
    rw [hq]
    show (((binOp op t (.int k m) (.int k' n)) >>= fun v => pure (Next.value v)) : Sem Next).run P w = _
    rw [Sem.run_bind, e]; rfl⟩
theorem T_shr {k' : IntKind} {r : Int} (h1 : lkO L x = some ((Rep.int k).at m)) (h2 : lkO L y = some ((Rep.int k').at n)) (h : shrI k m n = some r) : Tp P ⟨d, .binOp .shr t x y t', ty, pos, aft, g⟩ L [] ((Rep.int k).at r) :=
  T_binS h1 h2 fun w I => by
    unfold shrI at h
    split at h
    · rename_i h0
      simp only [Option.some.injEq] at h
      exact ⟨_, by simp [binOp, Op.shift, show ¬ n < 0 by omega]; rfl, by rw [← h]; rfl⟩
    · cases h
theorem T_quoI {r : Int} (h1 : lkO L x = some ((Rep.int k).at m)) (h2 : lkO L y = some ((Rep.int k).at n)) (h : quoI k m n = some r) : Tp P ⟨d, .binOp .quo t x y t', ty, pos, aft, g⟩ L [] ((Rep.int k).at r) := by
  unfold quoI at h
  split at h
  · cases h
  · rename_i h0
    simp only [Option.some.injEq] at h
    subst h
    exact T_quo h1 h2 h0
theorem T_xor (h1 : lkO L x = some ((Rep.int k).at m)) (h2 : lkO L y = some ((Rep.int k).at n)) : Tp P ⟨d, .binOp .xor t x y t', ty, pos, aft, g⟩ L [] ((Rep.int k).at (xorI k m n)) :=
  T_bin h1 h2 fun w I => ⟨_, by simp [binOp, Op.intBits]; rfl, rfl⟩
theorem T_not (h : lkO L x = some (Rep.bool.at p)) : Tp P ⟨d, .unOp .not t x, ty, pos, aft, g⟩ L [] (Rep.bool.at (!p)) :=
  ⟨(nofun), fun N D a w I O hh _ _ => ⟨_, by simp only [execOp, lkB hh h]; rfl, rfl⟩⟩
theorem T_pick_t {a b : Operand} (h : lkO L x = some (Rep.bool.at true)) (h1 : lkO L a = some φ) : Tp P ⟨d, .pick x a b, ty, pos, aft, g⟩ L [] φ :=
  ⟨(nofun), fun N D a w I O hh _ _ => ⟨_, by simp only [execOp, lkB hh h]; rfl, lkO_ok hh h1⟩⟩
theorem T_pick_f {a b : Operand} (h : lkO L x = some (Rep.bool.at false)) (h1 : lkO L b = some φ) : Tp P ⟨d, .pick x a b, ty, pos, aft, g⟩ L [] φ :=
  ⟨(nofun), fun N D a w I O hh _ _ => ⟨_, by simp only [execOp, lkB hh h]; rfl, lkO_ok hh h1⟩⟩
theorem T_conv {k' : IntKind} {src dst : TypeId} {ds : TypeDesc} (h : lkO L x = some ((Rep.int k).at m)) (hs : P.underlying src = some ds) (hd : P.underlying dst = some (.int k')) :
    Tp P ⟨d, .convert src dst x, ty, pos, aft, g⟩ L [] ((Rep.int k').at (k'.wrap m)) :=
  ⟨(nofun), fun N D a w I O hh _ _ => ⟨_, by
    simp only [execOp, lkI hh h]
    show (((convert src dst (.int k m)) >>= fun v => pure (Next.value v)) : Sem Next).run P w = _
    simp [convert, Sem.run_bind, run_underlying hs, run_underlying hd, Conv.intToInt], rfl⟩⟩
theorem J_test {X : Cx} {c1 c2 : Code} {Q : Exit → Act → World → Prop} {O : List Ent} (h : lkO L x = some (Rep.bool.at p)) (ht : p = true → J X c1 Q L O) (hf : p = false → J X c2 Q L O) :
    J X (.cond x c1 c2) Q L O := by
  cases p with
  | true => exact J_cond (b := true) (fun I a hh => lkB hh h) (ht rfl)
  | false => exact J_cond (b := false) (fun I a hh => lkB hh h) (hf rfl)
end
end Go.J
end
section
set_option linter.unusedVariables false
set_option linter.unusedSimpArgs false
namespace Go.J
theorem cells_one {v : Value} (h : v.oneCell' = true) : v.cells = #[v] := by cases v <;> first | rfl | simp [Value.oneCell'] at h
theorem add_off (b o n : Nat) : (⟨b, o, none⟩ : Addr).add n = ⟨b, o + n, none⟩ := by unfold Addr.add; split <;> simp_all
theorem add_off' {a : Addr} (h : a.spot = none) (n : Nat) : a.add n = ⟨a.block, a.off + n, none⟩ := by cases a; simp at h; subst h; exact add_off _ _ _
/-! ### Layouts and fields -/
section
variable {α β σ τ : Type} {ρ : Rep α} {π : Rep β}
theorem Lay.cells {n : Nat} {g : Bool} (h : ρ.Lay n g) {I : Imm} {v : Value} {x : α} (k : ρ.rd I v x) : v.cells.size = n ∧ (∀ c ∈ v.cells, c.oneCell' = true) ∧ (g = true → v = .agg v.cells) ∧ (g = false → v.cells = #[v]) := by
  have := h I v x k
  cases g with
  | true =>
    simp only [if_true] at this
    obtain ⟨cs, rfl, h1, h2⟩ := this
    exact ⟨h1, h2, fun _ => rfl, fun h => by cases h⟩
  | false =>
    simp only [Bool.false_eq_true, if_false] at this
    obtain ⟨h1, h2⟩ := this
    have e := cells_one h2
    exact ⟨by rw [e, h1]; rfl, by rw [e]; simpa using h2, (by intro h; cases h), fun _ => e⟩
theorem Lay.int (k : IntKind) : (Rep.int k).Lay 1 false := fun I v x h => by
  have h : v = .int k x := h
  subst h; simp [Value.oneCell']
theorem Lay.bool : Rep.bool.Lay 1 false := fun I v x h => by
  have h : v = .bool x := h
  subst h; simp [Value.oneCell']
theorem Lay.str : Rep.str.Lay 1 false := fun I v x h => by
  have h : v = .string x := h
  subst h; simp [Value.oneCell']
theorem Lay.slv : Rep.slv.Lay 1 false := fun I v x h => by
  obtain ⟨rfl, A, n, c, rfl⟩ := h
  simp [Value.oneCell']
theorem Lay.sl (ρ : Rep α) (n : Nat) : (ρ.sl n).Lay 1 false := fun I v x h => by
  obtain ⟨A, c, rfl, _⟩ := h
  simp [Value.oneCell']
def Rep.nilS : Rep Unit := ⟨fun _ v _ => v = .agg #[], fun _ h => h⟩
def Rep.cons (ρ : Rep α) (π : Rep β) : Rep (α × β) := ⟨fun I v x => ∃ u cs, ρ.rd I u x.1 ∧ π.rd I (.agg cs) x.2 ∧ v = .agg (u.cells ++ cs),
  fun h ⟨u, cs, a, b, c⟩ => ⟨u, cs, ρ.mono h a, π.mono h b, c⟩⟩
def Rep.iso (f : σ → τ) (π : Rep τ) : Rep σ := ⟨fun I v x => π.rd I v (f x), fun h k => π.mono h k⟩
theorem Lay.nilS : Rep.nilS.Lay 0 true := fun I v x h => by
  have h : v = .agg #[] := h
  subst h; exact ⟨#[], rfl, rfl, by simp⟩
theorem Lay.cons {n m : Nat} {g : Bool} (h1 : ρ.Lay n g) (h2 : π.Lay m true) : (ρ.cons π).Lay (n + m) true := fun I v x h => by
  obtain ⟨u, cs, a, b, rfl⟩ := h
  have q1 := Lay.cells h1 a
  have q2 := Lay.cells h2 b
  simp only [if_true]
  refine ⟨_, rfl, ?_, fun c hc => ?_⟩
  · have : cs.size = m := q2.1
    simp [q1.1, this]
  · rcases Array.mem_append.1 hc with hc | hc
    · exact q1.2.1 c hc
    · exact q2.2.1 c hc
theorem Lay.iso {n : Nat} {g : Bool} {f : σ → τ} {π : Rep τ} (h : π.Lay n g) : (Rep.iso f π).Lay n g := fun I v x k => h I v (f x) k
/-- The part at this place. -/
def HasF (ρ : Rep α) (off : Nat) (π : Rep β) (pr : α → β) : Prop :=
  ∀ I v x, ρ.rd I v x → ∃ u, π.rd I u (pr x) ∧ ∀ j (h : j < u.cells.size), v.cells[off + j]? = some u.cells[j]
theorem HasF.self (ρ : Rep α) : HasF ρ 0 ρ id := fun I v x h => ⟨v, h, fun j hj => by simp [hj]⟩
theorem HasF.head (ρ : Rep α) (π : Rep β) : HasF (ρ.cons π) 0 ρ Prod.fst := fun I v x h => by
  obtain ⟨u, cs, a, b, rfl⟩ := h
  exact ⟨u, a, fun j hj => by show (u.cells ++ cs)[0 + j]? = _; rw [Nat.zero_add, Array.getElem?_append_left hj, Array.getElem?_eq_getElem hj]⟩
theorem HasF.tail {γ : Type} {ψ : Rep γ} {n off : Nat} {g : Bool} {pr : β → γ} (h1 : ρ.Lay n g) (h2 : HasF π off ψ pr) : HasF (ρ.cons π) (n + off) ψ (fun x => pr x.2) := fun I v x h => by
  obtain ⟨u, cs, a, b, rfl⟩ := h
  obtain ⟨w, k1, k2⟩ := h2 I _ _ b
  have q := (Lay.cells h1 a).1
  refine ⟨w, k1, fun j hj => ?_⟩
  have := k2 j hj
  simp only [Value.cells] at this ⊢
  rw [Array.getElem?_append_right (by simp only [Value.cells] at q; omega)]
  rw [← this]; congr 1
  simp only [Value.cells] at q
  omega
theorem HasF.iso {γ : Type} {ψ : Rep γ} {off : Nat} {f : σ → τ} {π : Rep τ} {pr : τ → γ} (h : HasF π off ψ pr) : HasF (Rep.iso f π) off ψ (fun x => pr (f x)) := fun I v x k => h I v (f x) k
theorem HasF.comp {γ : Type} {ψ : Rep γ} {o1 o2 : Nat} {p1 : α → β} {p2 : β → γ} (h1 : HasF ρ o1 π p1) (h2 : HasF π o2 ψ p2) : HasF ρ (o1 + o2) ψ (fun x => p2 (p1 x)) := fun I v x h => by
  obtain ⟨u, k1, k2⟩ := h1 I v x h
  obtain ⟨w, q1, q2⟩ := h2 I u _ k1
  refine ⟨w, q1, fun j hj => ?_⟩
  have h3 := q2 j hj
  have h4 : o2 + j < u.cells.size := (Array.getElem?_eq_some_iff.1 h3).1
  have := k2 (o2 + j) h4
  rw [Nat.add_assoc, this]
  rw [Array.getElem?_eq_getElem h4] at h3
  exact h3
/-- A row of cells with others laid over it. -/
def over (cs : Array Value) (off : Nat) (us : Array Value) : Array Value := (cs.toList.take off ++ us.toList ++ cs.toList.drop (off + us.size)).toArray
/-- The part at this place can be set. -/
def SetF (ρ : Rep α) (off : Nat) (π : Rep β) (up : α → β → α) : Prop :=
  ∀ I v x u y, ρ.rd I v x → π.rd I u y → off + u.cells.size ≤ v.cells.size ∧ ∃ v', ρ.rd I v' (up x y) ∧ v'.cells = over v.cells off u.cells
theorem SetF.self {n : Nat} {g : Bool} (h : ρ.Lay n g) : SetF ρ 0 ρ (fun _ y => y) := fun I v x u y a b => by
  have q1 := (Lay.cells h a).1
  have q2 := (Lay.cells h b).1
  refine ⟨by omega, u, b, ?_⟩
  have : v.cells.toList.length = u.cells.size := by simp [q1, q2]
  simp [over, List.drop_of_length_le (Nat.le_of_eq this)]
theorem SetF.head {n m : Nat} {g : Bool} (h1 : ρ.Lay n g) : SetF (ρ.cons π) 0 ρ (fun x y => (y, x.2)) := fun I v x u y a b => by
  obtain ⟨u0, cs, a, b0, rfl⟩ := a
  have q1 := (Lay.cells h1 a).1
  have q2 := (Lay.cells h1 b).1
  refine ⟨by simp [Value.cells] at q1 q2 ⊢; omega, .agg (u.cells ++ cs), ⟨u, cs, b, b0, rfl⟩, ?_⟩
  have e : u0.cells.toList.length = u.cells.size := by simp [q1, q2]
  show u.cells ++ cs = over (u0.cells ++ cs) 0 u.cells
  apply Array.ext'
  simp only [over, Array.toList_append, List.take_zero, List.nil_append, Nat.zero_add]
  rw [← e, List.drop_left]
theorem SetF.tail {γ : Type} {ψ : Rep γ} {n off : Nat} {g : Bool} {up : β → γ → β} (h1 : ρ.Lay n g) (h2 : SetF π off ψ up) (h3 : ∀ I v x, π.rd I v x → ∃ cs, v = .agg cs) : SetF (ρ.cons π) (n + off) ψ (fun x y => (x.1, up x.2 y)) := fun I v x u y a b => by
  obtain ⟨u0, cs, a, b0, rfl⟩ := a
  have q1 := (Lay.cells h1 a).1
  obtain ⟨k1, v', k2, k3⟩ := h2 I _ _ u y b0 b
  obtain ⟨cs', rfl⟩ := h3 I _ _ k2
  refine ⟨by simp [Value.cells] at q1 k1 ⊢; omega, .agg (u0.cells ++ cs'), ⟨u0, cs', a, k2, rfl⟩, ?_⟩
  have e : u0.cells.toList.length = n := by simpa using q1
  have k3 : cs' = over cs off u.cells := k3
  show u0.cells ++ cs' = over (u0.cells ++ cs) (n + off) u.cells
  subst k3
  apply Array.ext'
  simp only [over, Array.toList_append, List.toList_toArray]
  have t1 : u0.cells.toList.take (n + off) = u0.cells.toList := List.take_of_length_le (by omega)
  have t2 : u0.cells.toList.drop (n + off + u.cells.size) = [] := List.drop_eq_nil_of_le (by omega)
  have t3 : n + off + u.cells.size - n = off + u.cells.size := by omega
  rw [List.take_append, List.drop_append, t1, t2, e, t3]
  simp only [Nat.add_sub_cancel_left, List.append_assoc, List.nil_append]
theorem SetF.comp {γ : Type} {ψ : Rep γ} {n o1 o2 : Nat} {g : Bool} {u1 : α → β → α} {p1 : α → β} {u2 : β → γ → β} (hl : π.Lay n g) (h1 : SetF ρ o1 π u1) (hf : HasF ρ o1 π p1) (h2 : SetF π o2 ψ u2) : SetF ρ (o1 + o2) ψ (fun x y => u1 x (u2 (p1 x) y)) := fun I v x u y a b => by
  obtain ⟨m, k1, k2⟩ := hf I v x a
  obtain ⟨q1, m', q2, q3⟩ := h2 I m _ u y k1 b
  obtain ⟨w1, v', w2, w3⟩ := h1 I v x m' _ a q2
  have e1 := (Lay.cells hl k1).1
  have e2 := (Lay.cells hl q2).1
  refine ⟨by omega, v', w2, ?_⟩
  rw [w3, q3]
  apply Array.ext'
  have hm : m.cells.toList = (v.cells.toList.drop o1).take m.cells.size := by
    apply List.ext_getElem?
    intro j
    rw [List.getElem?_take]
    split
    · rename_i hj
      have := k2 j hj
      rw [List.getElem?_drop, Array.getElem?_toList, Array.getElem?_toList, this, Array.getElem?_eq_getElem hj]
    · rename_i hj
      rw [List.getElem?_eq_none (by simpa using hj)]
  have hsz : (over m.cells o2 u.cells).size = m.cells.size := by rw [← q3, e2, e1]
  simp only [over, List.toList_toArray] at hsz ⊢
  have hlen : v.cells.toList.length = v.cells.size := by simp
  rw [show (m.cells.toList.take o2 ++ u.cells.toList ++ m.cells.toList.drop (o2 + u.cells.size)).toArray.size = m.cells.size from hsz]
  rw [hm]
  have hle : o1 + m.cells.size ≤ v.cells.toList.length := by rw [hlen]; omega
  have t1 : ((v.cells.toList.drop o1).take m.cells.size).take o2 = (v.cells.toList.drop o1).take o2 := by rw [List.take_take, Nat.min_eq_left (by omega)]
  have t2 : v.cells.toList.take (o1 + o2) = v.cells.toList.take o1 ++ (v.cells.toList.drop o1).take o2 := by rw [List.take_add]
  have t3 : ((v.cells.toList.drop o1).take m.cells.size).drop (o2 + u.cells.size) ++ v.cells.toList.drop (o1 + m.cells.size) = v.cells.toList.drop (o1 + o2 + u.cells.size) := by
    rw [List.drop_take, List.drop_drop, show v.cells.toList.drop (o1 + m.cells.size) = (v.cells.toList.drop (o1 + (o2 + u.cells.size))).drop (m.cells.size - (o2 + u.cells.size)) by rw [List.drop_drop]; congr 1; omega]
    rw [List.take_append_drop, Nat.add_assoc]
  rw [t1, t2, ← t3]
  simp only [List.append_assoc]
theorem SetF.iso {γ : Type} {ψ : Rep γ} {off : Nat} {f : σ → τ} {g : τ → σ} (hfg : ∀ x, f (g x) = x) {π : Rep τ} {up : τ → γ → τ} (h : SetF π off ψ up) : SetF (Rep.iso f π) off ψ (fun x y => g (up (f x) y)) :=
  fun I v x u y a b => by
    obtain ⟨k1, v', k2, k3⟩ := h I v (f x) u y a b
    exact ⟨k1, v', by show π.rd I v' (f (g _)); rw [hfg]; exact k2, k3⟩
end
/-! ### What is known of a type -/
structure Ty {α : Type} (P : Program) (T : TypeId) (ρ : Rep α) (n : Nat) (g : Bool) : Prop where
  info : ∃ i, P.info? T = some i ∧ i.size = n
  agg : ∃ d, P.underlying T = some d ∧ (match d with | .struct _ | .array _ _ => true | _ => false) = g
  lay : ρ.Lay n g
section
variable {α β : Type} {P : Program} {T : TypeId} {ρ : Rep α} {π : Rep β} {n : Nat} {g : Bool} {w : World} {I : Imm}
theorem Ty.size (h : Ty P T ρ n g) (w : World) : (sizeOf T).run P w = .ok n w := by
  obtain ⟨i, e, hn⟩ := h.info
  simp [sizeOf, typeInfo, e, hn]
theorem Ty.isAgg (h : Ty P T ρ n g) (w : World) : (isAgg T).run P w = .ok g w := by
  obtain ⟨d, e, hd⟩ := h.agg
  simp only [Go.isAgg, Sem.run_bind, run_underlying e]
  cases d <;> simp at hd <;> subst hd <;> rfl
/-- A whole variable is loaded. -/
theorem run_load (h : Ty P T ρ n g) {u : Value} {x : α} (hr : ρ.rd I u x) {b o : Nat} (hc : ∀ j (hj : j < u.cells.size), w.cell? ⟨b, o + j, none⟩ = some u.cells[j]) :
    (loadVar T ⟨b, o, none⟩).run P w = .ok u w := by
  obtain ⟨q1, q2, q3, q4⟩ := Lay.cells h.lay hr
  unfold loadVar
  rw [Sem.run_bind, h.isAgg]
  cases g with
  | true =>
    simp only [if_true, Result.andThen, Sem.run_bind, h.size]
    have := run_loadCells_list (P := P) w ⟨b, o, none⟩ u.cells.toList (fun j v hv => by
      rw [add_off]
      have hj : j < u.cells.size := by
        rcases Nat.lt_or_ge j u.cells.size with h | h
        · exact h
        · simp [Array.getElem?_eq_none h] at hv
      rw [hc j hj]; simp [hj] at hv; rw [hv])
    simp only [Array.length_toList, q1, Array.toArray_toList] at this
    rw [this]
    show Result.ok _ w = _
    rw [← q3 rfl]
  | false =>
    have e := q4 rfl
    have := hc 0 (by rw [e]; simp)
    simp only [Bool.false_eq_true, if_false, Result.andThen]
    have h0 : u.cells[0]'(by rw [e]; simp) = u := by simp [e]
    rw [h0] at this
    simp only [Nat.add_zero] at this
    simp [load, Sem.run, this]
end
end Go.J
end
section
set_option linter.unusedVariables false
set_option linter.unusedSimpArgs false
namespace Go.J
/-- An operand's fact, perhaps weakened. -/
def Arg (L : List (Nat × Pr)) (x : Operand) (φ : Pr) : Prop := ∃ ψ, lkO L x = some ψ ∧ ∀ I v, ψ.p I v → φ.p I v
theorem Arg.mk {L : List (Nat × Pr)} {x : Operand} {φ : Pr} (h : lkO L x = some φ) : Arg L x φ := ⟨φ, h, fun _ _ h => h⟩
theorem Arg.ok {L : List (Nat × Pr)} {x : Operand} {φ : Pr} (h : Arg L x φ) {N : Nat} {D : List Deferred} {I : Imm} {a : Act} (k : Has N D L I a) : φ.p I (a.eval x) :=
  let ⟨_, h1, h2⟩ := h; h2 _ _ (lkO_ok k h1)
section
variable {α β : Type} {P : Program} {T : TypeId} {ρ : Rep α} {π : Rep β} {n m : Nat} {g : Bool}
/-- A variable of the call's own: block b holds x. -/
def Ent.box (b : Nat) (ρ : Rep α) (x : α) : Ent where
  blk := [b]
  holds I h := ∃ u e, h b = some (.cells u.cells e (0, 0)) ∧ ρ.rd I u x ∧ (∀ o, I.c b o = none) ∧ (∀ c ∈ u.cells, c.oneCell' = true)
  ext := by
    intro I I' h h' hI h1 h2 ⟨u, e, a, k, c, d⟩
    have hb : b ∈ [b] := List.mem_singleton.2 rfl
    exact ⟨u, e, (h2 b hb).trans a, ρ.mono hI k, fun o => by rw [h1 b hb]; exact c o, d⟩
  lt := by
    intro I h ⟨u, e, a, _⟩ b' hb
    obtain rfl := List.mem_singleton.1 hb
    rw [a]; simp
/-- The cells of a block join what never changes. -/
def Imm.add (I : Imm) (b : Nat) (cs : Array Value) : Imm := { I with c := fun b' o => if b' = b then (match I.c b o with | some v => some v | none => cs[o]?) else I.c b' o }
theorem Imm.le_add (I : Imm) (b : Nat) (cs : Array Value) : I.le (I.add b cs) := ⟨fun b' o v h => by
  simp only [Imm.add]
  by_cases hb : b' = b
  · subst hb; simp [h]
  · simp [hb, h], rfl, rfl, rfl⟩
theorem Imm.add_other {I : Imm} {b b' : Nat} {cs : Array Value} (h : b' ≠ b) : (I.add b cs).c b' = I.c b' := by
  funext o; simp [Imm.add, h]
/-- A new block that is known from then on. -/
theorem St.fresh {I : Imm} {O : List Ent} {w : World} (s : St I O w) (cs : Array Value) (e : TypeId) :
    St (I.add w.heap.size cs) O (w.alloc (.cells cs e)) ∧ Seg (I.add w.heap.size cs) w.heap.size 0 cs := by
  have none_at : ∀ o, I.c w.heap.size o = none := fun o => by
    cases h : I.c w.heap.size o with
    | none => rfl
    | some v => exact absurd (s.imm_lt h) (Nat.lt_irrefl _)
  have s' := s.alloc (.cells cs e)
  refine ⟨⟨fun b o v h => ?_, s'.env, fun en he => ?_, s'.dis⟩, fun j hj => by simp [Imm.add, none_at, hj]⟩
  · simp only [Imm.add] at h
    by_cases hb : b = w.heap.size
    · subst hb
      simp only [if_true, none_at] at h
      rw [World.cell?_alloc_new]; exact h
    · simp only [hb, if_false] at h
      exact s'.imm b o v h
  · refine en.ext (Imm.le_add _ _ _) (fun b hb => ?_) (fun _ _ => rfl) (s'.own en he)
    exact Imm.add_other (Nat.ne_of_lt (s.lt he hb))
/-- A new block of the call's own. -/
theorem St.mine {I : Imm} {O : List Ent} {w : World} (s : St I O w) {u : Value} {x : α} (hr : ρ.rd I u x) (h1 : ∀ c ∈ u.cells, c.oneCell' = true) (e : TypeId) :
    St I (Ent.box w.heap.size ρ x :: O) (w.alloc (.cells u.cells e)) := by
  have none_at : ∀ o, I.c w.heap.size o = none := fun o => by
    cases h : I.c w.heap.size o with
    | none => rfl
    | some v => exact absurd (s.imm_lt h) (Nat.lt_irrefl _)
  have s' := s.alloc (.cells u.cells e)
  refine ⟨s'.imm, s'.env, fun en he => ?_, ?_⟩
  · rcases List.mem_cons.1 he with rfl | he
    · exact ⟨u, e, by show (w.heap.push _)[w.heap.size]? = _; simp, hr, none_at, h1⟩
    · exact s'.own en he
  · rw [List.flatMap_cons, List.nodup_append]
    refine ⟨by simp [Ent.box], s'.dis, fun b hb c hc => ?_⟩
    simp [Ent.box] at hb
    subst hb
    obtain ⟨en, he, hc⟩ := List.mem_flatMap.1 hc
    exact (Nat.ne_of_lt (s.lt he hc)).symm
variable {L : List (Nat × Pr)} {d : Option Nat} {ty : TypeId} {pos : String} {aft : Array Edge} {gd : Option (Nat × Bool)} {x y : Operand} {φ : Pr}
theorem wpIn_of_run {o : Oper} {r : Option Nat} {a : Act} {w w' : World} {v : Value} {next : Act → World → Prop} {Q : Exit → Act → World → Prop} (hd : ∀ c, o.op ≠ .defer c) (h : (execOp a.eval o).run P w = .ok (.value v) w') (k : next (a.put o.dst v) w') : o.wpIn (wide r) 0 P a w next Q := by
  refine ⟨fun _ _ => trivial, ?_⟩
  rw [Oper.semAt_eq _ _ _ hd, h]; exact k
theorem wpIn_of_skip {o : Oper} {r : Option Nat} {a : Act} {w w' : World} {next : Act → World → Prop} {Q : Exit → Act → World → Prop} (hd : ∀ c, o.op ≠ .defer c) (h : (execOp a.eval o).run P w = .ok .skip w') (k : next (a.put o.dst undef) w') : o.wpIn (wide r) 0 P a w next Q := by
  refine ⟨fun _ _ => trivial, ?_⟩
  rw [Oper.semAt_eq _ _ _ hd, h]; exact k
/-- A parameter or a value in a new variable that is never written again. -/
theorem T_box {v : α} (h : Arg L x (ρ.at v)) : Te P ⟨d, .box T x, ty, pos, aft, gd⟩ L [] (fun _ : Unit => ρ.iptr.at v) (fun _ => []) :=
  fun r N D a w I R next Q h1 h2 k => by
    have hv := h.ok h1
    refine wpIn_of_run (v := .pointer (some ⟨w.heap.size, 0, none⟩)) (w' := w.alloc (.cells (a.eval x).cells T)) (nofun) rfl ?_
    obtain ⟨s, q⟩ := St.fresh h2 (a.eval x).cells T
    exact k () _ _ _ (Imm.le_add _ _ _) ⟨_, 0, _, rfl, ρ.mono (Imm.le_add _ _ _) hv, q⟩ s
/-- .. in a new variable of the call's own. -/
theorem T_boxm {v : α} (h : Arg L x (ρ.at v)) (hl : ρ.Lay n g) : Te P ⟨d, .box T x, ty, pos, aft, gd⟩ L [] (fun b : Nat => Rep.ptr.at (b, 0)) (fun b => [Ent.box b ρ v]) :=
  fun r N D a w I R next Q h1 h2 k => by
    have hv := h.ok h1
    refine wpIn_of_run (v := .pointer (some ⟨w.heap.size, 0, none⟩)) (w' := w.alloc (.cells (a.eval x).cells T)) (nofun) rfl ?_
    exact k _ _ I _ (Imm.le.refl I) rfl (St.mine h2 hv (Lay.cells hl hv).2.1 T)
/-- The zero value. -/
def Zero (P : Program) (T : TypeId) (ρ : Rep α) (x : α) : Prop := ∃ z, (∀ w, (zeroValue T).run P w = .ok z w) ∧ ∀ I, ρ.rd I z x
theorem Zero.mk {i : TypeInfo} {z : Value} {v : α} (h : P.info? T = some i) (hz : i.zero = some z) (hr : ∀ I, ρ.rd I z v) : Zero P T ρ v :=
  ⟨z, fun w => by simp [zeroValue, typeInfo, h, hz], hr⟩
theorem T_alloc {v : α} (hz : Zero P T ρ v) (hl : ρ.Lay n g) : Te P ⟨d, .alloc T, ty, pos, aft, gd⟩ L [] (fun b : Nat => Rep.ptr.at (b, 0)) (fun b => [Ent.box b ρ v]) :=
  fun r N D a w I R next Q h1 h2 k => by
    obtain ⟨z, hz1, hz2⟩ := hz
    have hv := hz2 I
    refine wpIn_of_run (v := .pointer (some ⟨w.heap.size, 0, none⟩)) (w' := w.alloc (.cells z.cells T)) (nofun) ?_ ?_
    · show (((Instr.alloc T true (.tuple #[])) >>= fun v => pure (Next.value v)) : Sem Next).run P w = _
      simp only [Instr.alloc, Sem.run_bind, hz1, Result.andThen]
      rfl
    · exact k _ _ I _ (Imm.le.refl I) rfl (St.mine h2 hv (Lay.cells hl hv).2.1 T)
/-- Loads. -/
theorem T_load {v : α} (ht : Ty P T ρ n g) (h : lkO L x = some (ρ.iptr.at v)) : Tp P ⟨d, .load T x, ty, pos, aft, gd⟩ L [] (ρ.at v) :=
  ⟨(nofun), fun N D a w I O h1 _ h2 => by
    obtain ⟨b, o, u, e, hr, hs⟩ := lkO_ok h1 h
    refine ⟨u, ?_, hr⟩
    have hrun := run_load (P := P) (w := w) ht hr (b := b) (o := o) (fun j hj => h2.imm _ _ _ (hs j hj))
    show (((Instr.loadAt T (a.eval x)) >>= fun v => pure (Next.value v)) : Sem Next).run P w = _
    rw [e]
    simp only [Instr.loadAt, Instr.sureAddr, Sem.run_bind]
    rw [show (pure (⟨b, o, none⟩ : Addr) : Sem Addr).run P w = .ok ⟨b, o, none⟩ w from rfl]
    simp only [Result.andThen, hrun]
    rfl⟩
theorem T_loadb {v : α} {b o : Nat} {pr : α → β} (ht : Ty P T π n g) (h : lkO L x = some (Rep.ptr.at (b, o))) (hf : HasF ρ o π pr) : Tp P ⟨d, .load T x, ty, pos, aft, gd⟩ L [Ent.box b ρ v] (π.at (pr v)) :=
  ⟨(nofun), fun N D a w I O h1 hB h2 => by
    have e : a.eval x = .pointer (some ⟨b, o, none⟩) := lkO_ok h1 h
    obtain ⟨U, E, q1, q2, q3, q4⟩ := h2.own (Ent.box b ρ v) (hB _ (List.mem_singleton.2 rfl))
    obtain ⟨u, hr, hu⟩ := hf I U v q2
    refine ⟨u, ?_, hr⟩
    have hrun := run_load (P := P) (w := w) ht hr (b := b) (o := o) (fun j hj => by
      have q1 : w.heap[b]? = _ := q1
      simp [World.cell?, q1, hu j hj])
    show (((Instr.loadAt T (a.eval x)) >>= fun v => pure (Next.value v)) : Sem Next).run P w = _
    rw [e]
    simp only [Instr.loadAt, Instr.sureAddr, Sem.run_bind]
    rw [show (pure (⟨b, o, none⟩ : Addr) : Sem Addr).run P w = .ok ⟨b, o, none⟩ w from rfl]
    simp only [Result.andThen, hrun]
    rfl⟩
/-- A field's place. -/
def FOff (P : Program) (S k off : Nat) : Prop := ∃ fs f i, P.underlying S = some (.struct fs) ∧ fs[k]? = some f ∧ f.offset = off ∧ P.info? f.type = some i ∧ i.size ≠ 0
theorem FOff.run {S k off b o : Nat} (h : FOff P S k off) (w : World) : (Instr.fieldAt S (.pointer (some ⟨b, o, none⟩)) k).run P w = .ok (.pointer (some ⟨b, o + off, none⟩)) w := by
  obtain ⟨fs, f, i, h1, h2, h3, h4, h5⟩ := h
  simp [Instr.fieldAt, Sem.run_bind, run_underlying h1, h2, Instr.sureAddr, fieldPlace, sizeOf, typeInfo, h4, h5, h3, add_off]
theorem T_faddr {S k off b o : Nat} (hf : FOff P S k off) (h : lkO L x = some (Rep.ptr.at (b, o))) : Tp P ⟨d, .fieldAddr S x k, ty, pos, aft, gd⟩ L [] (Rep.ptr.at (b, o + off)) :=
  ⟨(nofun), fun N D a w I O h1 _ h2 => by
    have e : a.eval x = .pointer (some ⟨b, o, none⟩) := lkO_ok h1 h
    refine ⟨_, ?_, rfl⟩
    show (((Instr.fieldAt S (a.eval x) k) >>= fun v => pure (Next.value v)) : Sem Next).run P w = _
    rw [e, Sem.run_bind, hf.run]; rfl⟩
theorem T_faddri {S k off : Nat} {v : α} {pr : α → β} (hf : FOff P S k off) (h : lkO L x = some (ρ.iptr.at v)) (hp : HasF ρ off π pr) : Tp P ⟨d, .fieldAddr S x k, ty, pos, aft, gd⟩ L [] (π.iptr.at (pr v)) :=
  ⟨(nofun), fun N D a w I O h1 _ h2 => by
    obtain ⟨b, o, u, e, hr, hs⟩ := lkO_ok h1 h
    obtain ⟨u', hr', hu⟩ := hp I u v hr
    refine ⟨_, ?_, ⟨b, o + off, u', rfl, hr', fun j hj => ?_⟩⟩
    · show (((Instr.fieldAt S (a.eval x) k) >>= fun v => pure (Next.value v)) : Sem Next).run P w = _
      rw [e, Sem.run_bind, hf.run]; rfl
    · have h3 := hu j hj
      have h4 : off + j < u.cells.size := by
        rcases Nat.lt_or_ge (off + j) u.cells.size with h | h
        · exact h
        · simp [Array.getElem?_eq_none h] at h3
      have := hs (off + j) h4
      rw [Nat.add_assoc, this]
      simp [h4] at h3
      rw [h3]⟩
/-- Stores into a variable of the call's own. -/
theorem St.setBox {I : Imm} {R : List Ent} {w : World} {b o : Nat} {v : α} {z : β} {u : Value} {up : α → β → α} (s : St I (Ent.box b ρ v :: R) w) (hu : π.rd I u z) (h1 : ∀ c ∈ u.cells, c.oneCell' = true) (hs : SetF ρ o π up) :
    ∃ w', (storeCells ⟨b, o, none⟩ u.cells.toList).run P w = .ok () w' ∧ St I (Ent.box b ρ (up v z) :: R) w' := by
  obtain ⟨U, E, q1, q2, q3, q4⟩ := s.own (Ent.box b ρ v) (List.mem_cons_self ..)
  have q1 : w.heap[b]? = some (.cells U.cells E (0, 0)) := q1
  obtain ⟨k1, U', k2, k3⟩ := hs I U v u z q2 hu
  have hrun := run_storeCells_at (P := P) b o E u.cells.toList 0 U.cells w q1 (by simpa using k1) (by simpa using h1)
  refine ⟨_, hrun, ?_⟩
  simp only [Nat.add_zero, Array.length_toList] at hrun ⊢
  have e : (U.cells.toList.take o ++ u.cells.toList ++ U.cells.toList.drop (o + u.cells.size)).toArray = U'.cells := by rw [k3]; rfl
  rw [e]
  have hb : ∀ e ∈ R, b ∉ e.blk := fun e he hb => by
    have := s.dis
    rw [List.flatMap_cons, List.nodup_append] at this
    exact this.2.2 b (by simp [Ent.box]) b (List.mem_flatMap.2 ⟨e, he, hb⟩) rfl
  refine ⟨fun b' o' v' h => ?_, s.env, fun e he => ?_, ?_⟩
  · have hne : b' ≠ b := fun e => by subst e; rw [q3] at h; cases h
    rw [cell_setRow_other w b _ ⟨b', o', none⟩ hne]
    exact s.imm b' o' v' h
  · rcases List.mem_cons.1 he with rfl | he
    · refine ⟨U', E, setRow_heap w b _ _ E (0, 0) q1, k2, q3, fun c hc => ?_⟩
      rw [k3] at hc
      have hc' : c ∈ (U.cells.toList.take o ++ u.cells.toList ++ U.cells.toList.drop (o + u.cells.size)) := by simpa [over] using hc
      rcases List.mem_append.1 hc' with hc' | hc'
      · rcases List.mem_append.1 hc' with hc' | hc'
        · exact q4 c (by simpa using List.mem_of_mem_take hc')
        · exact h1 c (by simpa using hc')
      · exact q4 c (by simpa using List.mem_of_mem_drop hc')
    · exact e.ext (Imm.le.refl I) (fun _ _ => rfl) (fun b' hb' => setRow_other w b b' _ (fun e' => hb e he (e' ▸ hb'))) (s.own e (List.mem_cons_of_mem _ he))
  · have := s.dis
    rw [List.flatMap_cons] at this ⊢
    exact this
theorem T_loadw {v : α} {b : Nat} (ht : Ty P T ρ n g) (h : lkO L x = some (Rep.ptr.at (b, 0))) : Tp P ⟨d, .load T x, ty, pos, aft, gd⟩ L [Ent.box b ρ v] (ρ.at v) := T_loadb ht h (HasF.self ρ)
theorem T_nilchk {b o : Nat} (h : lkO L x = some (Rep.ptr.at (b, o))) : Tp P ⟨d, .nilCheck x, ty, pos, aft, gd⟩ L [] (Rep.ptr.at (b, o)) :=
  ⟨(nofun), fun N D a w I O h1 _ h2 => by
    have e : a.eval x = .pointer (some ⟨b, o, none⟩) := lkO_ok h1 h
    exact ⟨.pointer (some ⟨b, o, none⟩), by simp [execOp, e], rfl⟩⟩
theorem T_store {v : α} {z : β} {b o : Nat} {up : α → β → α} (ht : Ty P T π n g) (h : lkO L x = some (Rep.ptr.at (b, o))) (hy : Arg L y (π.at z)) (hs : SetF ρ o π up) :
    Te P ⟨d, .store T x y, ty, pos, aft, gd⟩ L [Ent.box b ρ v] (fun _ : Unit => Pr.top) (fun _ => [Ent.box b ρ (up v z)]) :=
  fun r N D a w I R next Q h1 h2 k => by
    have e : a.eval x = .pointer (some ⟨b, o, none⟩) := lkO_ok h1 h
    have hv := hy.ok h1
    have q := Lay.cells ht.lay hv
    obtain ⟨w', hrun, s⟩ := St.setBox (P := P) h2 hv q.2.1 hs
    refine wpIn_of_skip (w' := w') (nofun) ?_ (k () undef I w' (Imm.le.refl I) trivial s)
    show (((Instr.storeAt T (a.eval x) (a.eval y)) >>= fun _ => pure Next.skip) : Sem Next).run P w = _
    rw [e]
    simp only [Instr.storeAt, Instr.sureAddr, Sem.run_bind]
    rw [show (pure (⟨b, o, none⟩ : Addr) : Sem Addr).run P w = .ok ⟨b, o, none⟩ w from rfl]
    simp only [Result.andThen, storeVar, Sem.run_bind, ht.size, q.1, ne_eq, not_true, if_false, hrun]
    rfl
/-- What is owned and never written again joins what is known. -/
theorem St.freeze {I : Imm} {R : List Ent} {w : World} {b : Nat} {v : α} (s : St I (Ent.box b ρ v :: R) w) : ∃ I', I.le I' ∧ St I' R w ∧ ∃ u, ρ.rd I' u v ∧ Seg I' b 0 u.cells := by
  obtain ⟨U, E, q1, q2, q3, q4⟩ := s.own (Ent.box b ρ v) (List.mem_cons_self ..)
  have q1 : w.heap[b]? = some (.cells U.cells E (0, 0)) := q1
  have hb : ∀ e ∈ R, b ∉ e.blk := fun e he hb => by
    have := s.dis
    rw [List.flatMap_cons, List.nodup_append] at this
    exact this.2.2 b (by simp [Ent.box]) b (List.mem_flatMap.2 ⟨e, he, hb⟩) rfl
  refine ⟨I.add b U.cells, Imm.le_add _ _ _, ⟨fun b' o v' h => ?_, s.env, fun e he => ?_, ?_⟩, U, ρ.mono (Imm.le_add _ _ _) q2, fun j hj => by simp [Imm.add, q3, hj]⟩
  · simp only [Imm.add] at h
    by_cases hb' : b' = b
    · subst hb'
      simp only [if_true, q3] at h
      simp [World.cell?, q1, h]
    · simp only [hb', if_false] at h
      exact s.imm b' o v' h
  · refine e.ext (Imm.le_add _ _ _) (fun b' hb' => Imm.add_other (fun e' => hb e he (e' ▸ hb'))) (fun _ _ => rfl) (s.own e (List.mem_cons_of_mem _ he))
  · have := s.dis
    rw [List.flatMap_cons, List.nodup_append] at this
    exact this.2.1
end
/-! ### Where something owned stands; to the front with it -/
theorem B0 {x0 : Ent} {O : List Ent} : ∀ e ∈ [x0], e ∈ x0::O := fun e h => by obtain rfl := List.mem_singleton.1 h; simp
theorem B1 {x0 x1 : Ent} {O : List Ent} : ∀ e ∈ [x1], e ∈ x0::x1::O := fun e h => by obtain rfl := List.mem_singleton.1 h; simp
theorem B2 {x0 x1 x2 : Ent} {O : List Ent} : ∀ e ∈ [x2], e ∈ x0::x1::x2::O := fun e h => by obtain rfl := List.mem_singleton.1 h; simp
theorem B3 {x0 x1 x2 x3 : Ent} {O : List Ent} : ∀ e ∈ [x3], e ∈ x0::x1::x2::x3::O := fun e h => by obtain rfl := List.mem_singleton.1 h; simp
theorem F1 {x0 x1 : Ent} {O : List Ent} : (x0::x1::O).Perm (x1::x0::O) := List.perm_middle (l₁ := [x0])
theorem F2 {x0 x1 x2 : Ent} {O : List Ent} : (x0::x1::x2::O).Perm (x2::x0::x1::O) := List.perm_middle (l₁ := [x0, x1])
theorem F3 {x0 x1 x2 x3 : Ent} {O : List Ent} : (x0::x1::x2::x3::O).Perm (x3::x0::x1::x2::O) := List.perm_middle (l₁ := [x0, x1, x2])
theorem F4 {x0 x1 x2 x3 x4 : Ent} {O : List Ent} : (x0::x1::x2::x3::x4::O).Perm (x4::x0::x1::x2::x3::O) := List.perm_middle (l₁ := [x0, x1, x2, x3])
theorem F5 {x0 x1 x2 x3 x4 x5 : Ent} {O : List Ent} : (x0::x1::x2::x3::x4::x5::O).Perm (x5::x0::x1::x2::x3::x4::O) := List.perm_middle (l₁ := [x0, x1, x2, x3, x4])
end Go.J
end
section
set_option linter.unusedVariables false
set_option linter.unusedSimpArgs false
namespace Go.J
def idx {α : Type} (l : List α) (i : Int) : Option α := if 0 ≤ i then l[i.toNat]? else none
theorem idx_some {α : Type} {l : List α} {i : Int} {e : α} (h : idx l i = some e) : 0 ≤ i ∧ ∃ h : i.toNat < l.length, l[i.toNat] = e := by
  unfold idx at h
  split at h
  · rename_i h0
    exact ⟨h0, List.getElem?_eq_some_iff.1 h⟩
  · cases h
/-- A part of a slice; a bound behind its length isn't served. -/
def slc {α : Type} (l : List α) (lo hi : Int) : Option (List α) := if 0 ≤ lo ∧ lo ≤ hi ∧ hi ≤ l.length then some ((l.drop lo.toNat).take (hi - lo).toNat) else none
/-- What append yields, as long as no memory could bear it. -/
def app {α : Type} (bytes : Nat) (l m : List α) : Option (List α) := if (l.length + m.length) * bytes ≤ lim ∧ l.length + m.length ≤ lim then some (l ++ m) else none
/-- A slice type's element, its cells and bytes. -/
structure Sl (P : Program) (T E n bytes : Nat) : Prop where
  un : P.underlying T = some (.slice E)
  info : ∃ i z, P.info? E = some i ∧ i.size = n ∧ i.bytes = bytes ∧ i.zero = some z ∧ z.cells.size = n
  pos : 0 < n ∧ 0 < bytes
section
variable {α β : Type} {P : Program} {T E n bytes : Nat} {ρ : Rep α} {π : Rep β}
/-- A row of the call's own, that may still grow. -/
def Ent.row (s : Value) (E n : Nat) (ρ : Rep α) (l : List α) : Ent where
  blk := s.ownBlock.toList
  holds I h := l.length ≤ lim ∧ ((s = .slice none 0 0 ∧ l = []) ∨ ∃ g cap cur, s = .slice (some ⟨g, 0, none⟩) l.length cap ∧ h g = some (.cells cur E (0, 0)) ∧ l.length ≤ cap ∧ cap ≤ maxLen ∧ cur.size = cap * n ∧
    (∀ o, I.c g o = none) ∧ ∀ i (hi : i < l.length), ∃ u, ρ.rd I u l[i] ∧ u.cells.size = n ∧ (∀ c ∈ u.cells, c.oneCell' = true) ∧ ∀ j (hj : j < u.cells.size), cur[i * n + j]? = some u.cells[j])
  ext := by
    intro I I' h h' hI h1 h2 ⟨hl, k⟩
    refine ⟨hl, ?_⟩
    rcases k with k | ⟨g, cap, cur, rfl, a, b, c, d, e, f⟩
    · exact .inl k
    · have hg : g ∈ (Value.slice (some ⟨g, 0, none⟩) l.length cap).ownBlock.toList := by simp [Value.ownBlock]
      exact .inr ⟨g, cap, cur, rfl, (h2 g hg).trans a, b, c, d, fun o => by rw [h1 g hg]; exact e o, fun i hi => let ⟨u, u1, u2⟩ := f i hi; ⟨u, ρ.mono hI u1, u2⟩⟩
  lt := by
    intro I h ⟨_, k⟩ b hb
    rcases k with ⟨rfl, _⟩ | ⟨g, cap, cur, rfl, a, _⟩
    · simp [Value.ownBlock] at hb
    · simp [Value.ownBlock] at hb; subst hb; rw [a]; simp
theorem St.rowNil {I : Imm} {O : List Ent} {w : World} (s : St I O w) : St I (Ent.row (.slice none 0 0) E n ρ [] :: O) w :=
  ⟨s.imm, s.env, fun e he => by
    rcases List.mem_cons.1 he with rfl | he
    · exact ⟨by simp [lim], .inl ⟨rfl, rfl⟩⟩
    · exact s.own e he, by rw [List.flatMap_cons]; simpa [Ent.row, Value.ownBlock] using s.dis⟩
theorem nilEmpty {v : Value} {l : List α} {I : Imm} (h : (ρ.sl n).rd I v l) : (∃ c, v = .slice none 0 c ∧ l = [] ∧ c = 0) ∨ ∃ a c, v = .slice (some a) l.length c ∧ (0 < l.length → a.spot = none) ∧ l.length ≤ lim ∧ l.length ≤ c ∧ ∀ i (h : i < l.length), ∃ u, ρ.rd I u l[i] ∧ Seg I a.block (a.off + i * n) u.cells := by
  obtain ⟨A, c, rfl, hl, hc, hn, k⟩ := h
  cases A with
  | none =>
    have := hn rfl
    subst this
    have : l = [] := List.eq_nil_of_length_eq_zero (by omega)
    subst this
    exact .inl ⟨0, rfl, rfl, rfl⟩
  | some a => exact .inr ⟨a, c, rfl, (k a rfl).1, hl, hc, (k a rfl).2⟩
/-- The values behind a list's elements. -/
theorem values {I : Imm} (p : Nat → Value → α → Prop) (l : List α) (h : ∀ i (h : i < l.length), ∃ u, p i u l[i]) : ∃ us : List Value, us.length = l.length ∧ ∀ i (h1 : i < us.length) (h2 : i < l.length), p i us[i] l[i] := by
  classical
  refine ⟨(List.finRange l.length).map fun (i : Fin l.length) => Classical.choose (h i.1 i.2), by simp, fun i h1 h2 => ?_⟩
  simp only [List.getElem_map, List.getElem_finRange]
  exact Classical.choose_spec (h i h2)
theorem flat_get (us : List Value) (h : ∀ u ∈ us, u.cells.size = n) : ∀ k j (hk : k < us.length) (hj : j < us[k].cells.size), (us.flatMap fun u => u.cells.toList)[k * n + j]? = some us[k].cells[j] := by
  induction us with
  | nil => intro k j hk; simp at hk
  | cons u us ih =>
    intro k j hk hj
    have hu : u.cells.toList.length = n := by simpa using h u (by simp)
    cases k with
    | zero =>
      simp only [List.getElem_cons_zero] at hj ⊢
      rw [List.flatMap_cons, Nat.zero_mul, Nat.zero_add, List.getElem?_append_left (by simpa using hj)]
      simp [hj]
    | succ k =>
      simp only [List.getElem_cons_succ] at hj ⊢
      rw [List.flatMap_cons, List.getElem?_append_right (by rw [hu, Nat.succ_mul]; omega), hu]
      rw [show (k + 1) * n + j - n = k * n + j by rw [Nat.succ_mul]; omega]
      exact ih (fun v hv => h v (by simp [hv])) k j (by simpa using hk) hj
theorem flat_len (us : List Value) (h : ∀ u ∈ us, u.cells.size = n) : (us.flatMap fun u => u.cells.toList).length = us.length * n := by
  induction us with
  | nil => simp
  | cons u us ih =>
    have hu : u.cells.toList.length = n := by simpa using h u (by simp)
    rw [List.flatMap_cons, List.length_append, hu, ih (fun v hv => h v (by simp [hv])), List.length_cons, Nat.succ_mul]
    omega
theorem flat_at (us : List Value) (h : ∀ u ∈ us, u.cells.size = n) (hn : 0 < n) {i : Nat} {v : Value} (hi : (us.flatMap fun u => u.cells.toList)[i]? = some v) : ∃ k j, ∃ (hk : k < us.length) (hj : j < us[k].cells.size), i = k * n + j ∧ us[k].cells[j] = v := by
  have hl : i < us.length * n := by
    rw [← flat_len us h]
    exact (List.getElem?_eq_some_iff.1 hi).1
  have hk : i / n < us.length := Nat.div_lt_of_lt_mul (by rw [Nat.mul_comm]; exact hl)
  have hj : i % n < us[i / n].cells.size := by rw [h _ (List.getElem_mem hk)]; exact Nat.mod_lt _ hn
  have e : i / n * n + i % n = i := Nat.div_add_mod' i n
  refine ⟨i / n, i % n, hk, hj, e.symm, ?_⟩
  have := flat_get us h (i / n) (i % n) hk hj
  rw [e, hi] at this
  simpa using this.symm
theorem St.row_other {I : Imm} {O : List Ent} {w : World} {e0 : Ent} (s : St I (e0 :: O) w) {e : Ent} (he : e ∈ O) {b : Nat} (h0 : b ∈ e0.blk) (hb : b ∈ e.blk) : False := by
  have := s.dis
  rw [List.flatMap_cons, List.nodup_append] at this
  exact this.2.2 b h0 b (List.mem_flatMap.2 ⟨e, he, hb⟩) rfl
/-- append, at a row of the call's own. -/
theorem St.append {I : Imm} {R : List Ent} {w : World} {s v : Value} {l m r : List α} {t ty : TypeId} (h : St I (Ent.row s E n ρ l :: R) w) (hs : Sl P t E n bytes) (hlay : ∃ g, ρ.Lay n g) (hv : (ρ.sl n).rd I v m) (hr : app bytes l m = some r) :
    ∃ s' w', (Builtin.append_ #[t, t] ty #[s, v]).run P w = .ok s' w' ∧ St I (Ent.row s' E n ρ r :: R) w' := by
  obtain ⟨i, z, hi, hi1, hi2, hi3, hi4⟩ := hs.info
  obtain ⟨g, hlay⟩ := hlay
  unfold app at hr
  split at hr
  case isFalse => cases hr
  rename_i hb
  simp only [Option.some.injEq] at hr
  subst hr
  obtain ⟨hlen, hrow⟩ := h.own (Ent.row s E n ρ l) (List.mem_cons_self ..)
  -- what is owned, in the library's words
  have hown : ∃ xs, w.ownsRow 0 E n s l.length xs ∧ ∀ i (hi : i < l.length), ∃ u, ρ.rd I u l[i] ∧ u.cells.size = n ∧ (∀ c ∈ u.cells, c.oneCell' = true) ∧ ∀ j (hj : j < u.cells.size), xs[i * n + j]? = some u.cells[j] := by
    rcases hrow with ⟨rfl, rfl⟩ | ⟨g, cap, cur, rfl, a, b, c, d, e, f⟩
    · exact ⟨[], World.ownsRow_nil _ _ _ _, fun i hi => absurd hi (by simp)⟩
    · refine ⟨cur.toList.take (l.length * n), ⟨?_, .inr ⟨g, cap, cur, rfl, Nat.zero_le _, a, b, c, d, rfl⟩⟩, fun i hi => ?_⟩
      · have := Nat.mul_le_mul_right n b
        simp only [List.length_take, Array.length_toList]
        omega
      · obtain ⟨u, u1, u2, u3, u4⟩ := f i hi
        refine ⟨u, u1, u2, u3, fun j hj => ?_⟩
        rw [List.getElem?_take_of_lt, Array.getElem?_toList]
        · exact u4 j hj
        · have : (i + 1) * n ≤ l.length * n := Nat.mul_le_mul_right _ hi
          rw [Nat.succ_mul] at this
          omega
  obtain ⟨xs, hown, hxs⟩ := hown
  have hst : ∀ k, s.ownBlock = some k → k ∈ (Ent.row s E n ρ l).blk := fun k hk => by simp [Ent.row, hk]
  rcases nilEmpty hv with ⟨c, rfl, rfl, rfl⟩ | ⟨a, c, rfl, ha, hm1, hm2, hm⟩
  · refine ⟨s, w, run_append_owned_none (P := P) (w := w) 0 t ty E i n hs.un hi s l.length xs hown, ?_⟩
    simpa using h
  · obtain ⟨us, hul, hus⟩ := values (I := I) (fun i u x => ρ.rd I u x ∧ Seg I a.block (a.off + i * n) u.cells) m hm
    have hsz : ∀ u ∈ us, u.cells.size = n := fun u hu => by
      obtain ⟨k, hk, rfl⟩ := List.mem_iff_getElem.1 hu
      exact (Lay.cells hlay (hus k hk (by omega)).1).1
    obtain ⟨s', w', hrun, hown', hgrow, _, hat⟩ := run_append_own_at (P := P) w 0 t ty E i z n bytes hs.un hi hi3 hi1 hi2 hi4 hs.pos.1 s l.length xs hown a m.length c (us.flatMap fun u => u.cells.toList)
      (by rw [flat_len us hsz, hul]) (fun p u hu => by
        obtain ⟨k, j, hk, hj, rfl, rfl⟩ := flat_at us hsz hs.pos.1 hu
        rw [add_off' (ha (by omega))]
        have := (hus k hk (by omega)).2 j hj
        rw [← Nat.add_assoc]
        exact h.imm _ _ _ this) (fun u hu => by
        obtain ⟨w1, hw1, hw2⟩ := List.mem_flatMap.1 hu
        obtain ⟨k, hk, rfl⟩ := List.mem_iff_getElem.1 hw1
        exact (Lay.cells hlay (hus k hk (by omega)).1).2.1 u (by simpa using hw2))
      (by have := hb.2; simp only [maxLen, lim] at *; omega) hb.1 (Nat.zero_le _)
    refine ⟨s', w', hrun, ?_⟩
    -- what was there lies as it lay
    have hne : ∀ k, k < w.heap.size → some k ≠ s.ownBlock → w'.heap[k]? = w.heap[k]? := hgrow.block
    have hold : ∀ e ∈ R, ∀ b ∈ e.blk, w'.heap[b]? = w.heap[b]? := fun e he b hb' => hne b (h.lt (List.mem_cons_of_mem _ he) hb') (fun e' => h.row_other he (hst b e'.symm) hb')
    have none_new : ∀ k, s'.ownBlock = some k → ∀ o, I.c k o = none := fun k hk o => by
      cases hc : I.c k o with
      | none => rfl
      | some v =>
        exfalso
        have h2 := h.imm_lt hc
        rcases hat with hat | hat
        · rw [hk] at hat
          rcases hrow with ⟨rfl, rfl⟩ | ⟨g, cap, cur, rfl, a', b, c, d, e, f⟩
          · simp [Value.ownBlock] at hat
          · simp [Value.ownBlock] at hat
            subst hat
            rw [e] at hc; cases hc
        · rw [hk] at hat
          simp at hat
          omega
    have keepsI : ∀ b o v, I.c b o = some v → w'.cell? ⟨b, o, none⟩ = some v := fun b o v hc => by
      have h2 := h.imm_lt hc
      have h1 := h.imm b o v hc
      have h3 : some b ≠ s.ownBlock := fun e => by
        rcases hrow with ⟨rfl, rfl⟩ | ⟨g, cap, cur, rfl, a', b', c, d, e', f⟩
        · simp [Value.ownBlock] at e
        · simp [Value.ownBlock] at e
          subst e
          rw [e'] at hc; cases hc
      rw [World.cell?_of_block (a := ⟨b, o, none⟩) (hne b h2 h3)]
      exact h1
    refine ⟨keepsI, ⟨hgrow.os.trans h.env.1, hgrow.tape.trans h.env.2.1, hgrow.output.trans h.env.2.2⟩, fun e he => ?_, ?_⟩
    · rcases List.mem_cons.1 he with rfl | he
      · refine ⟨by simpa using hb.2, ?_⟩
        rcases hown'.2 with ⟨rfl, h0⟩ | ⟨g', cap', cur', rfl, _, hg', hc1, hc2, hc3, hc4⟩
        · left
          have : m = [] := List.eq_nil_of_length_eq_zero (by omega)
          have : l = [] := List.eq_nil_of_length_eq_zero (by omega)
          simp_all
        · right
          refine ⟨g', cap', cur', by simp, hg', by simpa using hc1, hc2, hc3, none_new g' rfl, fun i hi => ?_⟩
          have hat' : ∀ p, p < (l.length + m.length) * n → cur'[p]? = (xs ++ us.flatMap fun u => u.cells.toList)[p]? := fun p hp => by
            rw [← hc4, List.getElem?_take_of_lt hp, Array.getElem?_toList]
          have hxl : xs.length = l.length * n := hown.1
          by_cases hil : i < l.length
          · obtain ⟨u, u1, u2, u3, u4⟩ := hxs i hil
            refine ⟨u, by rw [List.getElem_append_left hil]; exact u1, u2, u3, fun j hj => ?_⟩
            have h1 : (i + 1) * n ≤ l.length * n := Nat.mul_le_mul_right _ hil
            rw [Nat.succ_mul] at h1
            rw [hat' _ (by rw [Nat.add_mul]; omega), List.getElem?_append_left (by omega)]
            exact u4 j hj
          · have hi' : i < l.length + m.length := by simpa using hi
            have hk : i - l.length < us.length := by omega
            have q := hus (i - l.length) hk (by omega)
            have qq := Lay.cells hlay q.1
            refine ⟨us[i - l.length], by rw [List.getElem_append_right (by omega)]; exact q.1, qq.1, qq.2.1, fun j hj => ?_⟩
            have h1 : (i + 1) * n ≤ (l.length + m.length) * n := Nat.mul_le_mul_right _ hi'
            rw [Nat.succ_mul] at h1
            have h2 : i * n = l.length * n + (i - l.length) * n := by rw [← Nat.add_mul]; congr 1; omega
            rw [hat' _ (by omega), List.getElem?_append_right (by omega), hxl]
            rw [show i * n + j - l.length * n = (i - l.length) * n + j by omega]
            exact flat_get us hsz _ j hk hj
      · exact e.ext (Imm.le.refl I) (fun _ _ => rfl) (hold e he) (h.own e (List.mem_cons_of_mem _ he))
    · have hd := h.dis
      rw [List.flatMap_cons, List.nodup_append] at hd ⊢
      refine ⟨by cases h : s'.ownBlock <;> simp [Ent.row, h], hd.2.1, fun b hb' c hc' => ?_⟩
      obtain ⟨e, he, hce⟩ := List.mem_flatMap.1 hc'
      have hb' : s'.ownBlock = some b := by
        cases h : s'.ownBlock with
        | none => simp [Ent.row, h] at hb'
        | some k => simp [Ent.row, h] at hb'; rw [hb']
      intro e'
      subst e'
      rcases hat with hat | hat
      · rw [hb'] at hat
        exact h.row_other he (hst b hat.symm) hce
      · rw [hb'] at hat
        have := h.lt (List.mem_cons_of_mem _ he) hce
        simp at hat
        omega
end
end Go.J
end
section
set_option linter.unusedVariables false
set_option linter.unusedSimpArgs false
namespace Go.J
section
variable {α β : Type} {P : Program} {T E n m bytes : Nat} {ρ : Rep α} {π : Rep β} {g : Bool}
variable {L : List (Nat × Pr)} {d : Option Nat} {ty : TypeId} {pos : String} {aft : Array Edge} {gd : Option (Nat × Bool)} {x y : Operand} {φ : Pr}
theorem run_builtin {b : Builtin} {args : Array Operand} {ts : Array TypeId} {a : Act} {w w' : World} {v : Value} (h : (builtin b ts ty (args.map fun | .const _ => true | _ => false) (args.map a.eval)).run P w = .ok (.value v) w') :
    (execOp a.eval ⟨d, .call { callee := .builtin b, args := args, argTypes := ts }, ty, pos, aft, gd⟩).run P w = .ok (.value v) w' := by
  simp only [execOp, resolve, Sem.run_bind, Sem.run_pure, Result.andThen, invoke]
  exact h
theorem T_len {l : List α} (ht : Sl P T E n bytes) (h : Arg L x ((ρ.sl m).at l)) : Tp P ⟨d, .call { callee := .builtin .len, args := #[x], argTypes := #[T] }, ty, pos, aft, gd⟩ L [] ((Rep.int .i64).at (l.length : Int)) :=
  ⟨(nofun), fun N D a w I O hh _ _ => by
    obtain ⟨A, c, e, _⟩ := h.ok hh
    refine ⟨_, run_builtin ?_, rfl⟩
    simp [builtin, Builtin.len_, run_underlying ht.un, e, goInt]⟩
theorem row_form {s : Value} {l : List α} {I : Imm} {O : List Ent} {w : World} (h : St I O w) (hm : Ent.row s E n ρ l ∈ O) : ∃ A c, s = .slice A l.length c := by
  obtain ⟨_, h⟩ := h.own _ hm
  rcases h with ⟨rfl, rfl⟩ | ⟨g, cap, cur, rfl, _⟩
  · exact ⟨none, 0, rfl⟩
  · exact ⟨_, _, rfl⟩
theorem T_len_row {l : List α} {s : Value} (ht : Sl P T E n bytes) (h : Arg L x (Rep.slv.at s)) : Tp P ⟨d, .call { callee := .builtin .len, args := #[x], argTypes := #[T] }, ty, pos, aft, gd⟩ L [Ent.row s E n ρ l] ((Rep.int .i64).at (l.length : Int)) :=
  ⟨(nofun), fun N D a w I O hh hB hs => by
    have e : a.eval x = s := (h.ok hh).1
    obtain ⟨A, c, rfl⟩ := row_form hs (hB _ (List.mem_singleton.2 rfl))
    refine ⟨_, run_builtin ?_, rfl⟩
    simp [builtin, Builtin.len_, run_underlying ht.un, e, goInt]⟩
theorem T_min {k : IntKind} {p q : Int} {ts : Array TypeId} (h1 : lkO L x = some ((Rep.int k).at p)) (h2 : lkO L y = some ((Rep.int k).at q)) : Tp P ⟨d, .call { callee := .builtin .min, args := #[x, y], argTypes := ts }, ty, pos, aft, gd⟩ L [] ((Rep.int k).at (min p q)) :=
  ⟨(nofun), fun N D a w I O hh _ _ => by
    refine ⟨_, run_builtin (v := .int k (min p q)) ?_, rfl⟩
    have e1 := lkI hh h1
    have e2 := lkI hh h2
    simp only [builtin, Builtin.min_, e1, e2, List.map_toArray, List.map_cons, List.map_nil, List.foldlM_cons, List.foldlM_nil, Builtin.min2]
    simp
    omega⟩
theorem T_max {k : IntKind} {p q : Int} {ts : Array TypeId} (h1 : lkO L x = some ((Rep.int k).at p)) (h2 : lkO L y = some ((Rep.int k).at q)) : Tp P ⟨d, .call { callee := .builtin .max, args := #[x, y], argTypes := ts }, ty, pos, aft, gd⟩ L [] ((Rep.int k).at (max p q)) :=
  ⟨(nofun), fun N D a w I O hh _ _ => by
    refine ⟨_, run_builtin (v := .int k (max p q)) ?_, rfl⟩
    have e1 := lkI hh h1
    have e2 := lkI hh h2
    simp only [builtin, Builtin.max_, e1, e2, List.map_toArray, List.map_cons, List.map_nil, List.foldlM_cons, List.foldlM_nil, Builtin.max2]
    simp
    omega⟩
theorem Sl.size (h : Sl P T E n bytes) (w : World) : (sizeOf E).run P w = .ok n w := by
  obtain ⟨i, z, e, hn, _⟩ := h.info
  simp [sizeOf, typeInfo, e, hn]
/-- The place of an element that never changes. -/
theorem T_ix {l : List α} {i : Int} {e : α} {k : IntKind} (ht : Sl P T E n bytes) (h : Arg L x ((ρ.sl n).at l)) (hy : lkO L y = some ((Rep.int k).at i)) (hi : idx l i = some e) :
    Tp P ⟨d, .indexAddr T x y, ty, pos, aft, gd⟩ L [] (ρ.iptr.at e) :=
  ⟨(nofun), fun N D a w I O hh _ _ => by
    obtain ⟨h0, h1, h2⟩ := idx_some hi
    obtain ⟨A, c, ev, hl, hc, hn, hk⟩ := h.ok hh
    have ei := lkI hh hy
    cases A with
    | none => exact absurd (hn rfl) (by omega)
    | some ad =>
      obtain ⟨hsp, hel⟩ := hk ad rfl
      obtain ⟨u, hu, hs⟩ := hel _ h1
      rw [h2] at hu
      refine ⟨.pointer (some ⟨ad.block, ad.off + i.toNat * n, none⟩), ?_, ⟨_, _, u, rfl, hu, hs⟩⟩
      show (((Instr.indexAt T (a.eval x) (a.eval y)) >>= fun v => pure (Next.value v)) : Sem Next).run P w = _
      rw [ev, ei]
      simp [Instr.indexAt, asIntOf, run_underlying ht.un, Sl.size ht, h0, show i < (l.length : Int) by omega, add_off' (hsp (by omega))]⟩
/-- The block of a row. -/
def rowB (s : Value) : Nat := s.ownBlock.getD 0
/-- A row's element, or a part of it. -/
theorem T_ixr {l : List α} {i : Int} {e : α} {k : IntKind} {s : Value} (ht : Sl P T E n bytes) (h : Arg L x (Rep.slv.at s)) (hy : lkO L y = some ((Rep.int k).at i)) (hi : idx l i = some e) :
    Tp P ⟨d, .indexAddr T x y, ty, pos, aft, gd⟩ L [Ent.row s E n ρ l] (Rep.ptr.at (rowB s, i.toNat * n)) :=
  ⟨(nofun), fun N D a w I O hh hB hs => by
    obtain ⟨h0, h1, h2⟩ := idx_some hi
    have ev : a.eval x = s := (h.ok hh).1
    have ei := lkI hh hy
    obtain ⟨_, hr⟩ := hs.own _ (hB _ (List.mem_singleton.2 rfl))
    rcases hr with ⟨rfl, rfl⟩ | ⟨g, cap, cur, rfl, _⟩
    · simp at h1
    · refine ⟨_, ?_, rfl⟩
      show (((Instr.indexAt T (a.eval x) (a.eval y)) >>= fun v => pure (Next.value v)) : Sem Next).run P w = _
      rw [ev, ei]
      simp [Instr.indexAt, asIntOf, run_underlying ht.un, Sl.size ht, h0, show i < (l.length : Int) by omega, add_off, rowB, Value.ownBlock]⟩
theorem T_loadr {l : List α} {i : Int} {e : α} {s : Value} {p : Nat} {pr : α → β} (ht : Ty P T π m g) (h : lkO L x = some (Rep.ptr.at (rowB s, i.toNat * n + p))) (hi : idx l i = some e) (hf : HasF ρ p π pr) :
    Tp P ⟨d, .load T x, ty, pos, aft, gd⟩ L [Ent.row s E n ρ l] (π.at (pr e)) :=
  ⟨(nofun), fun N D a w I O h1 hB h2 => by
    have e1 : a.eval x = .pointer (some ⟨rowB s, i.toNat * n + p, none⟩) := lkO_ok h1 h
    obtain ⟨h0, h3, h4⟩ := idx_some hi
    obtain ⟨_, hr⟩ := h2.own _ (hB _ (List.mem_singleton.2 rfl))
    rcases hr with ⟨rfl, rfl⟩ | ⟨g, cap, cur, rfl, hg, _, _, _, _, hel⟩
    · simp at h3
    · have hg : w.heap[g]? = _ := hg
      obtain ⟨u, hu, hsz, _, hc⟩ := hel _ h3
      rw [h4] at hu
      obtain ⟨u', hu', hv⟩ := hf I u e hu
      refine ⟨u', ?_, hu'⟩
      have hrun := run_load (P := P) (w := w) ht hu' (b := g) (o := i.toNat * n + p) (fun j hj => by
        have h5 := hv j hj
        have h6 : p + j < u.cells.size := by
          rcases Nat.lt_or_ge (p + j) u.cells.size with h | h
          · exact h
          · simp [Array.getElem?_eq_none h] at h5
        have := hc (p + j) h6
        simp only [World.cell?, hg]
        simp only [Option.isSome_none, Bool.false_eq_true, if_false]
        rw [Nat.add_assoc, this]
        simp [h6] at h5
        rw [h5])
      show (((Instr.loadAt T (a.eval x)) >>= fun v => pure (Next.value v)) : Sem Next).run P w = _
      rw [e1]
      simp only [Instr.loadAt, Instr.sureAddr, Sem.run_bind, rowB, Value.ownBlock, Option.getD_some]
      rw [show (pure (⟨g, i.toNat * n + p, none⟩ : Addr) : Sem Addr).run P w = .ok ⟨g, i.toNat * n + p, none⟩ w from rfl]
      simp only [Result.andThen, hrun]
      rfl⟩
theorem T_append {l l2 r : List α} {s : Value} (ht : Sl P T E n bytes) (hl : ∃ g, ρ.Lay n g) (h : Arg L x (Rep.slv.at s)) (hy : Arg L y ((ρ.sl n).at l2)) (hr : app bytes l l2 = some r) :
    Te P ⟨d, .call { callee := .builtin .append, args := #[x, y], argTypes := #[T, T] }, ty, pos, aft, gd⟩ L [Ent.row s E n ρ l] (fun s' : Value => Rep.slv.at s') (fun s' => [Ent.row s' E n ρ r]) :=
  fun r' N D a w I R next Q h1 h2 k => by
    have ev : a.eval x = s := (h.ok h1).1
    obtain ⟨s', w', hrun, hst⟩ := St.append (t := T) (ty := ty) h2 ht hl (hy.ok h1) hr
    refine wpIn_of_run (v := s') (w' := w') (nofun) (run_builtin ?_) (k s' s' I w' (Imm.le.refl I) ⟨rfl, let ⟨A, c, e⟩ := row_form hst (List.mem_cons_self ..); ⟨A, _, c, e⟩⟩ hst)
    simp [builtin, ev, hrun]
/-- A row is never written again. -/
theorem St.freezeRow {I : Imm} {R : List Ent} {w : World} {s : Value} {l : List α} (h : St I (Ent.row s E n ρ l :: R) w) : ∃ I', I.le I' ∧ St I' R w ∧ (ρ.sl n).rd I' s l := by
  obtain ⟨hlen, hr⟩ := h.own (Ent.row s E n ρ l) (List.mem_cons_self ..)
  rcases hr with ⟨rfl, rfl⟩ | ⟨g, cap, cur, rfl, hg, hc1, hc2, hc3, hn, hel⟩
  · exact ⟨I, Imm.le.refl I, h.drop (O' := [_]), ⟨none, 0, rfl, by simp [lim], by simp, fun _ => rfl, fun a ha => by cases ha⟩⟩
  · have hg : w.heap[g]? = some (.cells cur E (0, 0)) := hg
    have hb : ∀ e ∈ R, g ∉ e.blk := fun e he hb => h.row_other he (by simp [Ent.row, Value.ownBlock]) hb
    refine ⟨I.add g cur, Imm.le_add _ _ _, ⟨fun b' o v' h' => ?_, h.env, fun e he => ?_, ?_⟩, ⟨some ⟨g, 0, none⟩, cap, rfl, hlen, hc1, (by intro h; cases h), fun a ha => ?_⟩⟩
    · simp only [Imm.add] at h'
      by_cases hb' : b' = g
      · subst hb'
        simp only [if_true, hn] at h'
        simp [World.cell?, hg, h']
      · simp only [hb', if_false] at h'
        exact h.imm b' o v' h'
    · exact e.ext (Imm.le_add _ _ _) (fun b' hb' => Imm.add_other (fun e' => hb e he (e' ▸ hb'))) (fun _ _ => rfl) (h.own e (List.mem_cons_of_mem _ he))
    · have := h.dis
      rw [List.flatMap_cons, List.nodup_append] at this
      exact this.2.1
    · simp only [Option.some.injEq] at ha
      subst ha
      refine ⟨fun _ => rfl, fun i hi => ?_⟩
      obtain ⟨u, u1, u2, u3, u4⟩ := hel i hi
      refine ⟨u, ρ.mono (Imm.le_add _ _ _) u1, fun j hj => ?_⟩
      have := u4 j hj
      simp only [Nat.zero_add, Imm.add, if_true, hn]
      exact this
/-- .. and its temporary is told as a slice that never changes. -/
theorem KJ_freeze {X : Cx} {K : Act → World → Prop} {O : List Ent} {t : Nat} {s : Value} {l : List α} (ht : lk L t = some (Rep.slv.at s)) (k : KJ X K ((t, (ρ.sl n).at l) :: L) O) : KJ X K L (Ent.row s E n ρ l :: O) :=
  fun a w ⟨I, h0, h1, h2⟩ => by
    obtain ⟨I', hI, hs, hr⟩ := h2.freezeRow
    refine k a w ⟨I', h0.trans hI, ⟨h1.sz, h1.df, fun u ψ e => ?_⟩, hs⟩
    simp only [lk] at e
    by_cases hu : t = u
    · subst hu
      simp at e; subst e
      obtain ⟨v, e1, e2⟩ := h1.tm t _ ht
      obtain ⟨rfl, _⟩ := e2
      exact ⟨v, e1, hr⟩
    · have hb : Nat.beq t u = false := by cases h : Nat.beq t u with | false => rfl | true => exact absurd (Nat.eq_of_beq_eq_true h) hu
      rw [hb] at e
      obtain ⟨v, e1, e2⟩ := h1.tm u ψ e
      exact ⟨v, e1, ψ.mono hI e2⟩
end
end Go.J
end
section
set_option linter.unusedVariables false
set_option linter.unusedSimpArgs false
namespace Go.J
def Are (I : Imm) : List Value → List Pr → Prop
  | [], [] => True
  | v :: vs, φ :: φs => φ.p I v ∧ Are I vs φs
  | _, _ => False
theorem Are.mono {I I' : Imm} (h : I.le I') : ∀ {vs : List Value} {φs : List Pr}, Are I vs φs → Are I' vs φs
  | [], [], _ => trivial
  | _ :: _, φ :: _, k => ⟨φ.mono h k.1, Are.mono h k.2⟩
  | [], _ :: _, k => k.elim
  | _ :: _, [], k => k.elim
theorem Are.length {I : Imm} : ∀ {vs : List Value} {φs : List Pr}, Are I vs φs → vs.length = φs.length
  | [], [], _ => rfl
  | _ :: _, φ :: _, k => by simp [Are.length k.2]
  | [], _ :: _, k => k.elim
  | _ :: _, [], k => k.elim
theorem Are.get {I : Imm} : ∀ {vs : List Value} {φs : List Pr}, Are I vs φs → ∀ {i : Nat} {φ : Pr}, φs[i]? = some φ → ∃ v, vs[i]? = some v ∧ φ.p I v
  | [], [], _, i, φ, h => by simp at h
  | v :: vs, ψ :: ψs, k, 0, φ, h => by simp at h; subst h; exact ⟨v, rfl, k.1⟩
  | v :: vs, ψ :: ψs, k, i + 1, φ, h => by simp at h; simpa using Are.get k.2 h
  | [], _ :: _, k, _, _, _ => k.elim
  | _ :: _, [], k, _, _, _ => k.elim
/-- Several values in one. -/
def Pr.tup (φs : List Pr) : Pr := ⟨fun I v => ∃ vs : List Value, v = .tuple vs.toArray ∧ Are I vs φs, fun h ⟨vs, e, k⟩ => ⟨vs, e, k.mono h⟩⟩
/-- A function's contract: what it is handed, what it takes over, what it hands back, what it leaves. -/
def Ct (P : Program) (f : FuncId) (φs : List Pr) (κ : List Ent) {ι : Type} (φ : ι → Pr) (ε : ι → List Ent) : Prop :=
  ∀ (vs : List Value) (w : World) (I : Imm) (R : List Ent), Are I vs φs → St I (κ ++ R) w →
    CallsIn (wide none) 0 P f vs.toArray w (fun e w' => ∃ i v I', e = .returned v ∧ I.le I' ∧ (φ i).p I' v ∧ St I' (ε i ++ R) w')
def ArgL (L : List (Nat × Pr)) : List Operand → List Pr → Prop
  | [], [] => True
  | x :: xs, φ :: φs => Arg L x φ ∧ ArgL L xs φs
  | _, _ => False
theorem ArgL.ok {L : List (Nat × Pr)} {N : Nat} {D : List Deferred} {I : Imm} {a : Act} (k : Has N D L I a) : ∀ {xs : List Operand} {φs : List Pr}, ArgL L xs φs → Are I (xs.map a.eval) φs
  | [], [], _ => trivial
  | _ :: _, _ :: _, h => ⟨h.1.ok k, ArgL.ok k h.2⟩
  | [], _ :: _, h => h.elim
  | _ :: _, [], h => h.elim
/-- A function with a body. -/
structure FnIs (P : Program) (f : FuncId) : Prop where
  is : ∃ fn, P.funcs[f]? = some fn ∧ (fn.name == "runtime.NumGoroutine") = false ∧ fn.body.isNone = false
theorem FnIs.run {P : Program} {f : FuncId} (h : FnIs P f) (args : Array Value) (w : World) : (callFunc f args).run P w = .ok (.enter f args) w := by
  obtain ⟨fn, h1, h2, h3⟩ := h.is
  simp only [callFunc, Sem.run_bind, show (program).run P w = .ok P w from rfl, Result.andThen, h1, h2, h3]
  rfl
section
variable {α β : Type} {P : Program} {T E n m bytes : Nat} {ρ : Rep α} {π : Rep β} {g : Bool}
variable {L : List (Nat × Pr)} {d : Option Nat} {ty : TypeId} {pos : String} {aft : Array Edge} {gd : Option (Nat × Bool)} {x y : Operand} {φ : Pr}
theorem wpIn_of_call {o : Oper} {r : Option Nat} {a : Act} {w w' : World} {f : FuncId} {args : Array Value} {next : Act → World → Prop} {Q : Exit → Act → World → Prop} (hd : ∀ c, o.op ≠ .defer c) (h : (execOp a.eval o).run P w = .ok (.enter f args) w')
    (k : CallsIn (wide none) 0 P f args w' (fun e w'' => ∃ v, e = .returned v ∧ next (a.put o.dst v) w'')) : o.wpIn (wide r) 0 P a w next Q := by
  refine ⟨fun _ _ => trivial, ?_⟩
  rw [Oper.semAt_eq _ _ _ hd, h]
  have k' : CallsIn (wide r) 0 P f args w' (fun e w'' => ∃ v, e = .returned v ∧ next (a.put o.dst v) w'') := by
    cases r with
    | none => exact k
    | some l => exact k.inRound l
  refine ⟨fun h => by simp [wide, Fence.wide] at h, k'.mono fun e w'' ⟨v, e1, e2⟩ => ?_⟩
  subst e1
  exact e2
/-- A call. -/
theorem T_call {f : FuncId} {xs : List Operand} {ts : Array TypeId} {φs : List Pr} {κ : List Ent} {ι : Type} {φ : ι → Pr} {ε : ι → List Ent} (hf : FnIs P f) (hc : Ct P f φs κ φ ε) (ha : ArgL L xs φs) :
    Te P ⟨d, .call { callee := .value (.func f), args := xs.toArray, argTypes := ts }, ty, pos, aft, gd⟩ L κ φ ε :=
  fun r N D a w I R next Q h1 h2 k => by
    refine wpIn_of_call (f := f) (args := (xs.map a.eval).toArray) (w' := w) (nofun) ?_ ?_
    · simp only [execOp, resolve, Act.eval, Deferred.ofValue, Sem.run_bind, Sem.run_pure, Result.andThen, invoke]
      simp [hf.run]
    · exact (hc _ w I R (ArgL.ok h1 ha) h2).mono fun e w' ⟨i, v, I', e1, e2, e3, e4⟩ => ⟨v, e1, k i v I' w' e2 e3 e4⟩
theorem T_extract {φs : List Pr} {i : Nat} (h : lkO L x = some (Pr.tup φs)) (hi : φs[i]? = some φ) : Tp P ⟨d, .extract x i, ty, pos, aft, gd⟩ L [] φ :=
  ⟨(nofun), fun N D a w I O hh _ _ => by
    obtain ⟨vs, e, k⟩ := lkO_ok hh h
    obtain ⟨v, h1, h2⟩ := k.get hi
    refine ⟨v, ?_, h2⟩
    show (((Instr.extract (a.eval x) i) >>= fun v => pure (Next.value v)) : Sem Next).run P w = _
    rw [e]
    simp [Instr.extract, h1]⟩
/-! ### Functions -/
theorem Has.start {I : Imm} {vs : List Value} {φs : List Pr} {N : Nat} (h : Are I vs φs) (hN : vs.length ≤ N) (L : List (Nat × Pr)) (hL : ∀ t φ, lk L t = some φ → φs[t]? = some φ) :
    Has N [] L I { tmps := vs.toArray ++ Array.replicate (N - vs.toArray.size) undef, defers := [] } := by
  refine ⟨by simp; omega, rfl, fun t φ e => ?_⟩
  obtain ⟨v, h1, h2⟩ := h.get (hL t φ e)
  have ht : t < vs.length := (List.getElem?_eq_some_iff.1 h1).1
  exact ⟨v, by rw [Array.getElem?_append_left (by simpa using ht)]; simpa using h1, h2⟩
/-- What a body must come to. -/
def Post (I : Imm) (R : List Ent) {ι : Type} (φ : ι → Pr) (ε : ι → List Ent) (e : Ending) (w' : World) : Prop := ∃ i v I', e = .returned v ∧ I.le I' ∧ (φ i).p I' v ∧ St I' (ε i ++ R) w'
def num : Nat → List Pr → List (Nat × Pr)
  | _, [] => []
  | i, φ :: φs => (i, φ) :: num (i + 1) φs
theorem lk_num : ∀ (φs : List Pr) (i t : Nat) (φ : Pr), lk (num i φs) t = some φ → i ≤ t ∧ φs[t - i]? = some φ
  | [], _, _, _, h => by simp [num, lk] at h
  | ψ :: ψs, i, t, φ, h => by
    simp only [num, lk] at h
    by_cases ht : i = t
    · subst ht; simp at h; subst h; simp
    · have hb : Nat.beq i t = false := by cases h : Nat.beq i t with | false => rfl | true => exact absurd (Nat.eq_of_beq_eq_true h) ht
      rw [hb] at h
      obtain ⟨h1, h2⟩ := lk_num ψs (i + 1) t φ h
      refine ⟨by omega, ?_⟩
      rw [show t - i = (t - (i + 1)) + 1 by omega]
      simpa using h2
/-- A contract out of a body's walk. -/
theorem Ct.mk {f : FuncId} {fn : Func} {c : Code} {φs : List Pr} {κ : List Ent} {ι : Type} {φ : ι → Pr} {ε : ι → List Ent} {N : Nat} (hf : P.funcs[f]? = some fn) (hb : fn.body = some c) (hN : fn.ntmps = N) (hle : φs.length ≤ N)
    (h : ∀ I R, J ⟨P, none, N, [], I⟩ c (bodyPost P fn (Post I R φ ε)) (num 0 φs) (κ ++ R)) : Ct P f φs κ φ ε := by
  intro vs w I R ha hs
  refine callsIn_of_wp hf hb trivial ?_
  rw [hN]
  exact h I R _ _ ⟨I, Imm.le.refl I, Has.start ha (by rw [ha.length]; exact hle) _ (fun t φ e => by simpa using (lk_num φs 0 t φ e).2), hs⟩
/-- One result. -/
def rvf (tmps : Array Value) : ResultVar → Sem Value
  | .tmp t => pure (tmps.getD t undef)
  | .cell b t => do loadVar t (← asAddr (tmps.getD b undef))
theorem results_eq (fn : Func) (tmps : Array Value) : results fn tmps = (do let vs ← fn.results.mapM (rvf tmps); pure (if h : vs.size = 1 then vs[0] else .tuple vs)) := rfl
/-- What the results read as. -/
def Rv (P : Program) (rs : List ResultVar) (L : List (Nat × Pr)) (O : List Ent) (φs : List Pr) : Prop :=
  ∀ N D a w I, Has N D L I a → St I O w → ∃ vs : List Value, (rs.mapM (rvf a.tmps)).run P w = .ok vs w ∧ Are I vs φs
theorem Rv.nil {O : List Ent} : Rv P [] L O [] := fun N D a w I _ _ => ⟨[], rfl, trivial⟩
theorem Rv.tmp {O : List Ent} {t : Nat} {rs : List ResultVar} {φs : List Pr} (h : Arg L (.tmp t) φ) (k : Rv P rs L O φs) : Rv P (.tmp t :: rs) L O (φ :: φs) := fun N D a w I h1 h2 => by
  obtain ⟨vs, e, hv⟩ := k N D a w I h1 h2
  exact ⟨a.tmps.getD t undef :: vs, by simp only [List.mapM_cons, Sem.run_bind, show (rvf a.tmps (.tmp t)).run P w = .ok (a.tmps.getD t undef) w from rfl, Result.andThen, e, Sem.run_pure], h.ok h1, hv⟩
theorem Rv.cell {O : List Ent} {t b : Nat} {v : α} {rs : List ResultVar} {φs : List Pr} (ht : Ty P T ρ n g) (h : lk L t = some (Rep.ptr.at (b, 0))) (hO : Ent.box b ρ v ∈ O) (k : Rv P rs L O φs) : Rv P (.cell t T :: rs) L O (ρ.at v :: φs) := fun N D a w I h1 h2 => by
  obtain ⟨vs, e, hv⟩ := k N D a w I h1 h2
  have e1 : a.eval (.tmp t) = .pointer (some ⟨b, 0, none⟩) := lkO_ok h1 (x := .tmp t) h
  have e1 : a.tmps.getD t undef = .pointer (some ⟨b, 0, none⟩) := e1
  obtain ⟨U, E', q1, q2, q3, q4⟩ := h2.own _ hO
  have q1 : w.heap[b]? = _ := q1
  have hrun := run_load (P := P) (w := w) ht q2 (b := b) (o := 0) (fun j hj => by simp [World.cell?, q1, hj])
  refine ⟨U :: vs, ?_, q2, hv⟩
  have hrv : (rvf a.tmps (.cell t T)).run P w = .ok U w := by
    simp only [rvf, Sem.run_bind, e1, asAddr, Sem.run_pure, Result.andThen, hrun]
  simp only [List.mapM_cons, Sem.run_bind, hrv, Sem.run_pure, Result.andThen, e]
/-- The way out of a function. -/
theorem KJ_ret {X : Cx} {fn : Func} {R : List Ent} {ι : Type} {φ : ι → Pr} {ε : ι → List Ent} {i : ι} {rs : List ResultVar} {φs : List Pr} (hD : X.D = []) (hrs : fn.results = rs.toArray) (hv : Rv X.P rs L (ε i ++ R) φs)
    (hφ : ∀ I vs, Are I vs φs → (φ i).p I (if h : vs.length = 1 then vs[0] else .tuple vs.toArray)) : KJ X (bodyPost X.P fn (Post X.I R φ ε) .ret) L (ε i ++ R) :=
  fun a w ⟨I, h0, h1, h2⟩ => by
    obtain ⟨vs, e, ha⟩ := hv X.N X.D a w I h1 h2
    refine ⟨by rw [h1.df, hD], (if h : vs.length = 1 then vs[0] else .tuple vs.toArray), ?_, i, _, I, rfl, h0, hφ I vs ha, h2⟩
    simp only [results_eq, hrs, List.mapM_toArray, Sem.run_bind, Sem.run_map, e, Result.andThen, Sem.run_pure]
    simp
theorem KJ_ret1 {X : Cx} {fn : Func} {R : List Ent} {ι : Type} {φ : ι → Pr} {ε : ι → List Ent} {ψ : Pr} {rv : ResultVar} (i : ι) (hrs : fn.results = #[rv]) (hv : Rv X.P [rv] L (ε i ++ R) [ψ]) (hψ : φ i = ψ) (hD : X.D = []) : KJ X (bodyPost X.P fn (Post X.I R φ ε) .ret) L (ε i ++ R) :=
  KJ_ret hD hrs hv fun I vs h => by
    subst hψ
    match vs, h with
    | [v], h => simpa using h.1
theorem KJ_retn {X : Cx} {fn : Func} {R : List Ent} {ι : Type} {φ : ι → Pr} {ε : ι → List Ent} {rs : List ResultVar} {φs : List Pr} (i : ι) (hrs : fn.results = rs.toArray) (hv : Rv X.P rs L (ε i ++ R) φs) (hψ : φ i = Pr.tup φs) (h1 : φs.length ≠ 1) (hD : X.D = []) : KJ X (bodyPost X.P fn (Post X.I R φ ε) .ret) L (ε i ++ R) :=
  KJ_ret hD hrs hv fun I vs h => by
    rw [hψ]
    have := h.length
    rw [dif_neg (by omega)]
    exact ⟨vs, rfl, h⟩
theorem KJ_end_body {X : Cx} {fn : Func} {R : Ending → World → Prop} {O : List Ent} (h : KJ X (bodyPost X.P fn R .ret) L O) : KJ X (bodyPost X.P fn R .normal) L O := h
end
end Go.J
end
section
set_option linter.unusedVariables false
set_option linter.unusedSimpArgs false
namespace Go.J
theorem over_size {cs us : Array Value} {off : Nat} (h : off + us.size ≤ cs.size) : (over cs off us).size = cs.size := by
  simp only [over, List.size_toArray, List.length_append, List.length_take, List.length_drop, Array.length_toList]
  omega
theorem over_in {cs us : Array Value} {off : Nat} (h : off + us.size ≤ cs.size) {j : Nat} (hj : j < us.size) : (over cs off us)[off + j]? = some us[j] := by
  simp only [over, List.getElem?_toArray]
  have h1 : (cs.toList.take off).length = off := by simp; omega
  rw [List.append_assoc, List.getElem?_append_right (by omega), h1, show off + j - off = j by omega, List.getElem?_append_left (by simpa using hj)]
  simp [hj]
theorem over_out {cs us : Array Value} {off : Nat} (h : off + us.size ≤ cs.size) {p : Nat} (hp : p < off ∨ off + us.size ≤ p) : (over cs off us)[p]? = cs[p]? := by
  simp only [over, List.getElem?_toArray]
  have h1 : (cs.toList.take off).length = off := by simp; omega
  rcases hp with hp | hp
  · rw [List.append_assoc, List.getElem?_append_left (by omega), List.getElem?_take_of_lt hp, Array.getElem?_toList]
  · have h2 : (cs.toList.take off ++ us.toList).length = off + us.size := by rw [List.length_append, h1]; simp
    rw [List.getElem?_append_right (by omega), h2, List.getElem?_drop, Array.getElem?_toList]
    congr 1; omega
theorem foldl_over (off : Nat) : ∀ (l : List Value) (k : Nat) (cs : Array Value), off + k + l.length ≤ cs.size →
    (l.zipIdx k).foldl (fun cs (p : Value × Nat) => cs.setIfInBounds (off + p.2) p.1) cs = (cs.toList.take (off + k) ++ l ++ cs.toList.drop (off + k + l.length)).toArray
  | [], k, cs, _ => by simp
  | v :: l, k, cs, h => by
    simp only [List.length_cons] at h
    rw [List.zipIdx_cons, List.foldl_cons, foldl_over off l (k + 1) _ (by simp; omega)]
    have := list_seg_step cs.toList (off + k) v l (by simp; omega)
    simp only [Array.toList_setIfInBounds]
    rw [show off + (k + 1) = off + k + 1 by omega, this]
    simp only [List.length_cons]
theorem fill_over (v : Value) (off : Nat) (cs : Array Value) (h : off + v.cells.size ≤ cs.size) :
    v.cells.zipIdx.foldl (fun cs (p : Value × Nat) => cs.setIfInBounds (off + p.2) p.1) cs = over cs off v.cells := by
  have := foldl_over off v.cells.toList 0 cs (by simpa using h)
  rw [← Array.foldl_toList, Array.toList_zipIdx, this]
  simp [over]
section
variable {α β : Type} {P : Program} {T E n m bytes : Nat} {ρ : Rep α} {π : Rep β} {g : Bool}
variable {L : List (Nat × Pr)} {d : Option Nat} {ty : TypeId} {pos : String} {aft : Array Edge} {gd : Option (Nat × Bool)} {x y : Operand} {φ : Pr}
/-- Where a struct's fields lie. -/
def Bd (P : Program) (S : TypeId) (pl : Array (Nat × Nat)) : Prop := ∃ fs, P.underlying S = some (.struct fs) ∧ ∀ w, (fs.mapM fun f => do pure (f.offset, ← sizeOf f.type) : Sem (Array (Nat × Nat))).run P w = .ok pl w
/-- The parts of a struct's literal, laid over what was there. -/
inductive BP (L : List (Nat × Pr)) (pl : Array (Nat × Nat)) {α : Type} (ρ : Rep α) : List (Nat × Operand) → α → α → Prop
  | nil {s : α} : BP L pl ρ [] s s
  | cons {β : Type} {π : Rep β} {k off n : Nat} {g : Bool} {x : Operand} {y : β} {up : α → β → α} {rest : List (Nat × Operand)} {s s' : α}
    (h : Arg L x (π.at y)) (hp : pl[k]? = some (off, n)) (hl : π.Lay n g) (hs : SetF ρ off π up) (r : BP L pl ρ rest (up s y) s') : BP L pl ρ ((k, x) :: rest) s s'
theorem BP.fill {N : Nat} {D : List Deferred} {I : Imm} {a : Act} (hh : Has N D L I a) {pl : Array (Nat × Nat)} {parts : List (Nat × Operand)} {s s' : α} (h : BP L pl ρ parts s s') : ∀ (v : Value), ρ.rd I v s →
    ∃ v', Instr.fill (pl[·]?) v.cells (parts.map fun p => (p.1, a.eval p.2)) = some v'.cells ∧ ρ.rd I v' s' := by
  induction h with
  | nil => intro v hv; exact ⟨v, rfl, hv⟩
  | @cons β π k off n g x y up rest s s' h hp hl hs _ ih =>
    intro v hv
    have hx := h.ok hh
    have q := Lay.cells hl hx
    obtain ⟨k1, v1, k2, k3⟩ := hs I v s (a.eval x) y hv hx
    obtain ⟨v', h1, h2⟩ := ih v1 k2
    refine ⟨v', ?_, h2⟩
    simp only [List.map_cons, Instr.fill, hp, q.1]
    have hc : (decide (n ≠ n) || decide (off + n > v.cells.size)) = false := by
      have := q.1; simp; omega
    simp only [hc, Bool.false_eq_true, if_false]
    rw [fill_over _ _ _ (by omega), ← k3]
    exact h1
/-- A struct's literal. -/
theorem T_build {S : TypeId} {pl : Array (Nat × Nat)} {parts : List (Nat × Operand)} {s0 s' : α} (hb : Bd P S pl) (hz : Zero P S ρ s0) (hl : ρ.Lay n true) (hp : BP L pl ρ parts s0 s') :
    Tp P ⟨d, .build S parts.toArray, ty, pos, aft, gd⟩ L [] (ρ.at s') :=
  ⟨(nofun), fun N D a w I O hh _ _ => by
    obtain ⟨z, hz1, hz2⟩ := hz
    obtain ⟨fs, hf1, hf2⟩ := hb
    obtain ⟨v', h1, h2⟩ := hp.fill hh z (hz2 I)
    refine ⟨v', ?_, h2⟩
    show (((Instr.build S (parts.toArray.map fun (i, x) => (i, a.eval x))) >>= fun v => pure (Next.value v)) : Sem Next).run P w = _
    simp only [Instr.build, Sem.run_bind, hz1, Result.andThen, run_underlying hf1, hf2]
    have e : (parts.toArray.map fun (i, x) => (i, a.eval x)).toList = parts.map fun p => (p.1, a.eval p.2) := by simp
    rw [e, h1]
    rw [(Lay.cells hl h2).2.2.1 rfl]
    rfl⟩
/-- The elements of a slice's literal. -/
inductive LP (L : List (Nat × Pr)) {α : Type} (ρ : Rep α) : Nat → List (Nat × Operand) → List α → Prop
  | nil {k : Nat} : LP L ρ k [] []
  | cons {k : Nat} {x : Operand} {y : α} {rest : List (Nat × Operand)} {l : List α} (h : Arg L x (ρ.at y)) (r : LP L ρ (k + 1) rest l) : LP L ρ k ((k, x) :: rest) (y :: l)
theorem LP.length {k : Nat} {parts : List (Nat × Operand)} {l : List α} (h : LP L ρ k parts l) : parts.length = l.length := by
  induction h with
  | nil => rfl
  | cons _ _ ih => simp [ih]
theorem LP.fill {N : Nat} {D : List Deferred} {I : Imm} {a : Act} (hh : Has N D L I a) (hl : ρ.Lay n g) {k : Nat} {parts : List (Nat × Operand)} {l : List α} (h : LP L ρ k parts l) : ∀ (cs : Array Value), (k + parts.length) * n ≤ cs.size →
    ∃ cs', Instr.fill (fun i => some (i * n, n)) cs (parts.map fun p => (p.1, a.eval p.2)) = some cs' ∧ cs'.size = cs.size ∧ (∀ p, p < k * n → cs'[p]? = cs[p]?) ∧
      ∀ i (hi : i < l.length), ∃ u, ρ.rd I u l[i] ∧ ∀ j (hj : j < u.cells.size), cs'[(k + i) * n + j]? = some u.cells[j] := by
  induction h with
  | nil => intro cs _; exact ⟨cs, rfl, rfl, fun _ _ => rfl, fun i hi => absurd hi (by simp)⟩
  | @cons k x y rest l h _ ih =>
    intro cs hcs
    have hx := h.ok hh
    have q := Lay.cells hl hx
    simp only [List.length_cons] at hcs
    have h0 : (k + 1) * n ≤ cs.size := Nat.le_trans (Nat.mul_le_mul_right _ (by omega)) hcs
    have h0' : k * n + n ≤ cs.size := by rw [Nat.succ_mul] at h0; exact h0
    have hov : k * n + (a.eval x).cells.size ≤ cs.size := by rw [q.1]; exact h0'
    obtain ⟨cs', h1, h2, h3, h4⟩ := ih (over cs (k * n) (a.eval x).cells) (by rw [over_size hov]; rw [show k + 1 + rest.length = k + (rest.length + 1) by omega]; exact hcs)
    refine ⟨cs', ?_, by rw [h2, over_size hov], fun p hp => ?_, fun i hi => ?_⟩
    · simp only [List.map_cons, Instr.fill, q.1]
      have hc : (decide (n ≠ n) || decide (k * n + n > cs.size)) = false := by simp; omega
      simp only [hc, Bool.false_eq_true, if_false]
      rw [fill_over _ _ _ hov]
      exact h1
    · rw [h3 p (by rw [Nat.succ_mul]; omega), over_out hov (.inl hp)]
    · cases i with
      | zero =>
        refine ⟨a.eval x, hx, fun j hj => ?_⟩
        have hj' : j < n := by rw [q.1] at hj; exact hj
        rw [Nat.add_zero, h3 _ (by rw [Nat.succ_mul]; omega), over_in hov hj]
      | succ i =>
        obtain ⟨u, u1, u2⟩ := h4 i (by simpa using hi)
        refine ⟨u, u1, fun j hj => ?_⟩
        rw [show k + (i + 1) = k + 1 + i by omega]
        exact u2 j hj
/-- A slice's literal that is never written. -/
theorem T_bslice {len : Nat} {parts : List (Nat × Operand)} {l : List α} (ht : Sl P T E n bytes) (hl : ρ.Lay n g) (hp : LP L ρ 0 parts l) (hlen : parts.length = len) (hsz : len * n ≤ 16777216) :
    Te P ⟨d, .buildSlice T len parts.toArray, ty, pos, aft, gd⟩ L [] (fun _ : Unit => (ρ.sl n).at l) (fun _ => []) :=
  fun r N D a w I R next Q h1 h2 k => by
    obtain ⟨i, z, hi, hi1, hi2, hi3, hi4⟩ := ht.info
    have hn := ht.pos.1
    obtain ⟨zc, hz0, hz1⟩ : ∃ zc : Array Value, (len * n = 0 → zc = #[]) ∧ (len * n ≠ 0 → zc = z.cells) := by
      by_cases h0 : len * n = 0
      · exact ⟨#[], fun _ => rfl, fun h => absurd h0 h⟩
      · exact ⟨z.cells, fun h => absurd h h0, fun _ => rfl⟩
    have hN := hp.length
    obtain ⟨cs', f1, f2, f3, f4⟩ := hp.fill h1 hl ((Array.range (len * n)).map (zc[· % zc.size]!)) (by simp [hlen])
    refine wpIn_of_run (v := .slice (some ⟨w.heap.size, 0, none⟩) len len) (w' := w.alloc (.cells cs' E)) (nofun) ?_ ?_
    · show (((Instr.buildSlice T len (parts.toArray.map fun (i, x) => (i, a.eval x))) >>= fun v => pure (Next.value v)) : Sem Next).run P w = _
      have e : (parts.toArray.map fun (i, x) => (i, a.eval x)).toList = parts.map fun p => (p.1, a.eval p.2) := by simp
      simp only [Instr.buildSlice, Sem.run_bind, run_underlying ht.un, Result.andThen, Sl.size ht, show ¬ (len * n > 2 ^ 24) by omega, if_false, e]
      by_cases h0 : len * n = 0
      · rw [if_pos h0]
        have := hz0 h0
        subst this
        simp only [Sem.run_bind, Sem.run_pure, Result.andThen, f1]
        rfl
      · rw [if_neg h0]
        have := hz1 h0
        subst this
        simp only [Sem.run_bind, Sem.run_pure, Result.andThen, show (zeroValue E).run P w = .ok z w by simp [zeroValue, typeInfo, hi, hi3], f1]
        rfl
    · obtain ⟨s, q⟩ := St.fresh h2 cs' E
      have hll : l.length = len := by omega
      refine k () _ _ _ (Imm.le_add _ _ _) ⟨some ⟨w.heap.size, 0, none⟩, len, by rw [hll], ?_, by omega, (by intro h; cases h), fun ad had => ?_⟩ s
      · have : len ≤ len * n := Nat.le_mul_of_pos_right _ hn
        simp only [lim]; omega
      · simp only [Option.some.injEq] at had
        subst had
        refine ⟨fun _ => rfl, fun i hi => ?_⟩
        obtain ⟨u, u1, u2⟩ := f4 i hi
        refine ⟨u, ρ.mono (Imm.le_add _ _ _) u1, fun j hj => ?_⟩
        have h3 := u2 j hj
        rw [Nat.zero_add] at h3
        have h5 : i * n + j < cs'.size := (Array.getElem?_eq_some_iff.1 h3).1
        have h4 := q (i * n + j) h5
        simp only [Nat.zero_add] at h4 ⊢
        rw [h4]
        simpa [h5] using h3
/-- A slice of a slice. -/
theorem slc_some {l r : List α} {lo hi : Int} (h : slc l lo hi = some r) : 0 ≤ lo ∧ lo ≤ hi ∧ hi ≤ l.length ∧ r = (l.drop lo.toNat).take (hi - lo).toNat := by
  unfold slc at h
  split at h
  · rename_i h0
    simp only [Option.some.injEq] at h
    exact ⟨h0.1, h0.2.1, h0.2.2, h.symm⟩
  · cases h
theorem sl_part {l r : List α} {lo hi : Int} {A : Option Addr} {c : Nat} {I : Imm} (h : slc l lo hi = some r) (hv : (ρ.sl n).rd I (.slice A l.length c) l) :
    (ρ.sl n).rd I (.slice (if c = lo.toNat then A else A.map (·.add (lo.toNat * n))) (hi.toNat - lo.toNat) (c - lo.toNat)) r := by
  obtain ⟨h0, h1, h2, rfl⟩ := slc_some h
  obtain ⟨A', c', e, hl, hc, hn, hk⟩ := hv
  simp only [Value.slice.injEq, true_and] at e
  obtain ⟨rfl, rfl⟩ := e
  have hlen : ((l.drop lo.toNat).take (hi - lo).toNat).length = hi.toNat - lo.toNat := by
    rw [List.length_take, List.length_drop]; omega
  refine ⟨_, _, by rw [hlen], by omega, by omega, fun hA => ?_, fun a ha => ?_⟩
  · split at hA
    · rename_i e; omega
    · cases A with
      | none => have := hn rfl; omega
      | some a => simp at hA
  · by_cases e : c = lo.toNat
    · rw [if_pos e] at ha
      refine ⟨fun hp => (hk a ha).1 (by omega), fun i hi' => ?_⟩
      rw [hlen] at hi'
      omega
    · rw [if_neg e] at ha
      cases A with
      | none => simp at ha
      | some a0 =>
        simp only [Option.map_some, Option.some.injEq] at ha
        subst ha
        have hk0 := hk a0 rfl
        refine ⟨fun hp => by rw [add_off' (hk0.1 (by omega))], fun i hi' => ?_⟩
        rw [hlen] at hi'
        rw [add_off' (hk0.1 (by omega))]
        obtain ⟨u, u1, u2⟩ := hk0.2 (lo.toNat + i) (by omega)
        refine ⟨u, by simpa using u1, fun j hj => ?_⟩
        have := u2 j hj
        rw [show a0.off + lo.toNat * n + i * n + j = a0.off + (lo.toNat + i) * n + j by rw [Nat.add_mul]; omega]
        exact this
theorem T_slice_lh {l r : List α} {lo hi : Int} {k1 k2 : IntKind} {z : Operand} (ht : Sl P T E n bytes) (h : Arg L x ((ρ.sl n).at l)) (h1 : lkO L y = some ((Rep.int k1).at lo)) (h2 : lkO L z = some ((Rep.int k2).at hi)) (hr : slc l lo hi = some r) :
    Tp P ⟨d, .slice T x (some y) (some z) none, ty, pos, aft, gd⟩ L [] ((ρ.sl n).at r) :=
  ⟨(nofun), fun N D a w I O hh _ _ => by
    have hv := h.ok hh
    obtain ⟨A, c, e, hl, hc, _⟩ := h.ok hh
    obtain ⟨g0, g1, g2, _⟩ := slc_some hr
    refine ⟨_, ?_, sl_part hr (e ▸ hv)⟩
    show (((Instr.sliceAt T (a.eval x) (some (a.eval y)) (some (a.eval z)) none) >>= fun v => pure (Next.value v)) : Sem Next).run P w = _
    rw [e, lkI hh h1, lkI hh h2]
    simp [Instr.sliceAt, Instr.slice, run_underlying ht.un, Instr.sliceBounds, Instr.sliceBound, asIntOf, Sl.size ht, g0, show 0 ≤ hi by omega, show hi ≤ (c : Int) by omega]
    intro hx; exfalso; omega⟩
theorem T_slice_l {l r : List α} {lo : Int} {k1 : IntKind} (ht : Sl P T E n bytes) (h : Arg L x ((ρ.sl n).at l)) (h1 : lkO L y = some ((Rep.int k1).at lo)) (hr : slc l lo l.length = some r) :
    Tp P ⟨d, .slice T x (some y) none none, ty, pos, aft, gd⟩ L [] ((ρ.sl n).at r) :=
  ⟨(nofun), fun N D a w I O hh _ _ => by
    have hv := h.ok hh
    obtain ⟨A, c, e, hl, hc, _⟩ := h.ok hh
    obtain ⟨g0, g1, g2, _⟩ := slc_some hr
    refine ⟨_, ?_, sl_part hr (e ▸ hv)⟩
    show (((Instr.sliceAt T (a.eval x) (some (a.eval y)) none none) >>= fun v => pure (Next.value v)) : Sem Next).run P w = _
    rw [e, lkI hh h1]
    simp [Instr.sliceAt, Instr.slice, run_underlying ht.un, Instr.sliceBounds, Instr.sliceBound, asIntOf, Sl.size ht, g0, g1]⟩
theorem T_slice_h {l r : List α} {hi : Int} {k2 : IntKind} {z : Operand} (ht : Sl P T E n bytes) (h : Arg L x ((ρ.sl n).at l)) (h2 : lkO L z = some ((Rep.int k2).at hi)) (hr : slc l 0 hi = some r) :
    Tp P ⟨d, .slice T x none (some z) none, ty, pos, aft, gd⟩ L [] ((ρ.sl n).at r) :=
  ⟨(nofun), fun N D a w I O hh _ _ => by
    have hv := h.ok hh
    obtain ⟨A, c, e, hl, hc, _⟩ := h.ok hh
    obtain ⟨g0, g1, g2, _⟩ := slc_some hr
    refine ⟨_, ?_, sl_part hr (e ▸ hv)⟩
    show (((Instr.sliceAt T (a.eval x) none (some (a.eval z)) none) >>= fun v => pure (Next.value v)) : Sem Next).run P w = _
    rw [e, lkI hh h2]
    simp [Instr.sliceAt, Instr.slice, run_underlying ht.un, Instr.sliceBounds, Instr.sliceBound, asIntOf, Sl.size ht, g1, show hi ≤ (c : Int) by omega]⟩
/-- The nil slice as a slice that never changes. -/
theorem Arg.nilc {t : Operand} (h : lkO L t = some (Rep.slv.at (.slice none 0 0))) : Arg L t ((ρ.sl n).at []) :=
  ⟨_, h, fun I v e => by
    obtain ⟨rfl, _⟩ := e
    exact ⟨none, 0, rfl, by simp [lim], by simp, fun _ => rfl, fun a ha => by cases ha⟩⟩
end
end Go.J
end
section
set_option linter.unusedVariables false
set_option linter.unusedSimpArgs false
namespace Go.J
/-! ### Orders -/
def bdeps (o : Oper) : List Nat := (o.after.toList.filter (Region.binds .any)).map (·.on)
inductive Topo (ops : Array Oper) : (Nat → Bool) → List Nat → Prop
  | nil {s : Nat → Bool} (h : ∀ i, i < ops.size → s i = true) : Topo ops s []
  | cons {s : Nat → Bool} {i : Nat} {l : List Nat} {o : Oper} (ho : ops[i]? = some o) (hn : s i = false) (hd : ∀ j ∈ bdeps o, s j = true) (r : Topo ops (fun j => j == i || s j) l) : Topo ops s (i :: l)
theorem countP_lt (p q : Nat → Bool) : ∀ (l : List Nat), (∀ j ∈ l, q j = true → p j = true) → (∃ i ∈ l, p i = true ∧ q i = false) → l.countP q < l.countP p
  | [], _, ⟨i, h, _⟩ => by simp at h
  | a :: l, h, ⟨i, hi, hp, hq⟩ => by
    have hle : l.countP q ≤ l.countP p := List.countP_mono_left fun j hj => h j (List.mem_cons_of_mem _ hj)
    by_cases ha : p a = true ∧ q a = false
    · simp [List.countP_cons, ha.1, ha.2]; omega
    · have hi' : i ∈ l := by
        rcases List.mem_cons.1 hi with rfl | hi
        · exact absurd ⟨hp, hq⟩ ha
        · exact hi
      have ih := countP_lt p q l (fun j hj => h j (List.mem_cons_of_mem _ hj)) ⟨i, hi', hp, hq⟩
      have := h a (List.mem_cons_self ..)
      simp only [List.countP_cons]
      cases hqa : q a <;> cases hpa : p a <;> simp_all <;> omega
theorem go_topo {ops : Array Oper} (hlt : ∀ i o, ops[i]? = some o → ∀ j ∈ bdeps o, j < i) : ∀ (fuel t : Nat) (listed : Array Bool) (acc : List Nat), listed.size = ops.size →
    (List.range ops.size).countP (fun i => !listed.getD i false) ≤ fuel → ∃ l, Region.linearise.go .any ops fuel t listed acc = acc.reverse ++ l ∧ Topo ops (fun i => listed.getD i false) l
  | 0, t, listed, acc, hs, hc => ⟨[], by simp [Region.linearise.go], .nil fun i hi => by
      have h0 : (List.range ops.size).countP (fun i => !listed.getD i false) = 0 := by omega
      have := List.countP_eq_zero.1 h0 i (List.mem_range.2 hi)
      simpa using this⟩
  | fuel + 1, t, listed, acc, hs, hc => by
    unfold Region.linearise.go
    simp only []
    generalize hrs : (List.range ops.size).filter (fun i => !listed.getD i true && ((ops[i]?).map (·.after.all fun e => !Region.binds .any e || listed.getD e.on false)).getD false) = rs
    have hmem : ∀ i, i ∈ rs → i < ops.size ∧ listed.getD i true = false ∧ ∃ o, ops[i]? = some o ∧ ∀ j ∈ bdeps o, listed.getD j false = true := by
      intro i hi
      rw [← hrs, List.mem_filter, List.mem_range] at hi
      obtain ⟨h1, h2⟩ := hi
      simp only [Bool.and_eq_true, Bool.not_eq_true'] at h2
      cases ho : ops[i]? with
      | none => simp [ho] at h2
      | some o =>
        refine ⟨h1, h2.1, o, rfl, fun j hj => ?_⟩
        simp only [ho, Option.map_some, Option.getD_some, Array.all_eq_true'] at h2
        obtain ⟨e, he, rfl⟩ := List.mem_map.1 hj
        rw [List.mem_filter] at he
        have := h2.2 e (by simpa using he.1)
        simpa [he.2] using this
    cases hk : rs[t % rs.length]? with
    | none =>
      refine ⟨[], by simp, .nil fun i hi => ?_⟩
      have hnil : rs = [] := by
        cases rs with
        | nil => rfl
        | cons a l => simp [Nat.mod_lt] at hk
      -- all have come: else the least that hasn't is ready
      induction i using Nat.strongRecOn with
      | _ i ih =>
        cases hl : listed.getD i false with
        | true => rfl
        | false =>
          exfalso
          have hi' : i < listed.size := by omega
          have ho : ops[i]? = some ops[i] := by simp [hi]
          have : i ∈ rs := by
            rw [← hrs, List.mem_filter, List.mem_range]
            refine ⟨hi, ?_⟩
            have h2 : listed.getD i true = false := by simp [hi'] at hl ⊢; exact hl
            simp only [h2, ho, Option.map_some, Option.getD_some, Bool.not_false, Bool.true_and, Array.all_eq_true']
            intro e he
            by_cases hb : Region.binds .any e = true
            · have hj : e.on ∈ bdeps ops[i] := List.mem_map.2 ⟨e, List.mem_filter.2 ⟨by simpa using he, hb⟩, rfl⟩
              have hj' := hlt i _ ho _ hj
              simp [ih e.on hj' (by omega)]
            · simp [hb]
          rw [hnil] at this; simp at this
    | some i =>
      have hi : i ∈ rs := List.mem_of_getElem? hk
      obtain ⟨h1, h2, o, ho, hd⟩ := hmem i hi
      have hi' : i < listed.size := by omega
      have hs' : (fun j => (listed.setIfInBounds i true).getD j false) = (fun j => j == i || listed.getD j false) := by
        funext j
        by_cases hj : j = i
        · subst hj; simp [hi']
        · have : (j == i) = false := by simpa using hj
          rw [this, Bool.false_or]
          simp only [Array.getD_eq_getD_getElem?]
          rw [Array.getElem?_setIfInBounds_ne (fun e => hj e.symm)]
      obtain ⟨l, e1, e2⟩ := go_topo hlt fuel (t / rs.length) (listed.setIfInBounds i true) (i :: acc) (by simpa using hs) (by
        have := countP_lt (fun j => !listed.getD j false) (fun j => !(listed.setIfInBounds i true).getD j false) (List.range ops.size) (fun j _ h => by
          have e : (listed.setIfInBounds i true).getD j false = (j == i || listed.getD j false) := congrFun hs' j
          rw [e] at h
          simp at h
          simp [h.2]) ⟨i, List.mem_range.2 h1, by simp [hi'] at h2 ⊢; exact h2, by simp [hi']⟩
        omega)
      refine ⟨i :: l, by simp only [e1]; simp, .cons ho (by simp [hi'] at h2 ⊢; exact h2) hd (hs' ▸ e2)⟩
theorem linearise_topo {ops : Array Oper} (hlt : ∀ i o, ops[i]? = some o → ∀ j ∈ bdeps o, j < i) (t : Nat) : Topo ops (fun _ => false) (Region.linearise .any ops t) := by
  obtain ⟨l, e, h⟩ := go_topo hlt ops.size t (Array.replicate ops.size false) [] (by simp) (by
    refine Nat.le_trans List.countP_le_length ?_; simp)
  unfold Region.linearise
  rw [e]
  simp only [List.reverse_nil, List.nil_append]
  have : (fun i => (Array.replicate ops.size false).getD i false) = fun _ => false := by
    funext i; simp [Array.getD_eq_getD_getElem?, Array.getElem?_replicate]; split <;> rfl
  rw [← this]; exact h
end Go.J
end
