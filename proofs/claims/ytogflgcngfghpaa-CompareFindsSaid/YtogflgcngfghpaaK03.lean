/- A part of the proof: Loops of functions that yield, and ranges over functions without a result. Holds of every program. No condition. -/
import Derived.Scope
import Derived.Shelf.SlSortCmp.NoneTotal
import Derived.Test.YtogflgcngfghpaaProg
import Derived.Shelf.SlLaysF0
import Derived.Test.YtogflgcngfghpaaK02
section
set_option linter.unusedVariables false
set_option linter.unusedSimpArgs false
namespace Go.J
/-- x is yielded; then the rest. -/
def emitP {β τ : Type} (x : β) (k : Option (List β × τ)) : Option (List β × τ) := k.map fun p => (x :: p.1, p.2)
theorem emitP_some {β τ : Type} {x : β} {k : Option (List β × τ)} {ys : List β} {t : τ} (h : emitP x k = some (ys, t)) : ∃ zs, ys = x :: zs ∧ k = some (zs, t) := by
  cases hk : k with
  | none => simp [emitP, hk] at h
  | some p =>
    simp only [emitP, hk, Option.map_some, Option.some.injEq, Prod.mk.injEq] at h
    exact ⟨p.1, h.1.symm, by rw [← h.2]⟩
theorem injP {β τ : Type} {ys zs : List β} {s t : τ} (h : some (ys, s) = some (zs, t)) : zs = ys ∧ t = s := by
  simp only [Option.some.injEq, Prod.mk.injEq] at h; exact ⟨h.1.symm, h.2.symm⟩
/-- First what m yields, then what k yields. -/
def thenP {β σ ρ : Type} (m : Option (List β × Fl σ ρ)) (k : σ → Option (List β × ρ)) : Option (List β × ρ) :=
  m.bind fun p => match p.2 with
    | .go s => (k s).map fun q => (p.1 ++ q.1, q.2)
    | .ret r => some (p.1, r)
theorem thenP_some {β σ ρ : Type} {m : Option (List β × Fl σ ρ)} {k : σ → Option (List β × ρ)} {ys : List β} {r : ρ} (h : thenP m k = some (ys, r)) :
    ∃ zs o, m = some (zs, o) ∧ ∃ tl, ys = zs ++ tl ∧ match o with | .go s => k s = some (tl, r) | .ret r' => tl = [] ∧ r' = r := by
  unfold thenP at h
  obtain ⟨⟨zs, o⟩, h1, h2⟩ := Option.bind_eq_some_iff.1 h
  cases o with
  | go s =>
    obtain ⟨q, hq, he⟩ := Option.map_eq_some_iff.1 h2
    simp only [Prod.mk.injEq] at he
    exact ⟨zs, _, h1, q.1, he.1.symm, by rw [← he.2]; exact hq⟩
  | ret r' =>
    simp only [Option.some.injEq, Prod.mk.injEq] at h2
    exact ⟨zs, _, h1, [], by simp [h2.1], rfl, h2.2⟩
/-- What a round yields, ahead of what the rounds behind it yield. -/
def stepW {β σ ρ : Type} (st : Option (List β × Rd σ ρ)) (next : σ → Option (List β × Fl σ ρ)) : Option (List β × Fl σ ρ) := match st with
  | none => none
  | some (ys, .next s) => (next s).map fun q => (ys ++ q.1, q.2)
  | some (ys, .done s) => some (ys, .go s)
  | some (ys, .ret r) => some (ys, .ret r)
def rangeW {α β σ ρ : Type} (body : Int → α → σ → Option (List β × Rd σ ρ)) : List α → Int → σ → Option (List β × Fl σ ρ)
  | [], _, s => some ([], .go s)
  | x :: xs, i, s => stepW (body i x s) fun s' => rangeW body xs (i + 1) s'
def countW {β σ ρ : Type} (body : Int → σ → Option (List β × Rd σ ρ)) : Nat → Int → σ → Option (List β × Fl σ ρ)
  | 0, _, s => some ([], .go s)
  | n + 1, i, s => stepW (body i s) fun s' => countW body n (i + 1) s'
def whileW {β σ ρ : Type} (body : σ → Option (List β × Rd σ ρ)) : Nat → σ → Option (List β × Fl σ ρ)
  | 0, _ => none
  | k + 1, s => stepW (body s) fun s' => whileW body k s'
/-- A round's way out must fit: what is still to be yielded behind it. -/
def FitsW {β σ ρ : Type} (st : Rd σ ρ) (zs : List β) (tl : List β) (out : Fl σ ρ) : Prop :=
  match st with
  | .next _ => True
  | .done s => zs = tl ∧ out = .go s
  | .ret r => zs = tl ∧ out = .ret r
theorem stepW_some {β σ ρ : Type} {st : Option (List β × Rd σ ρ)} {next : σ → Option (List β × Fl σ ρ)} {ys : List β} {out : Fl σ ρ} (tl : List β) (h : stepW st next = some (ys, out)) :
    ∃ y1 rd zs, st = some (y1, rd) ∧ ys ++ tl = y1 ++ zs ∧ FitsW rd zs tl out ∧ ∀ s, rd = .next s → ∃ y2, next s = some (y2, out) ∧ zs = y2 ++ tl := by
  cases st with
  | none => simp [stepW] at h
  | some p =>
    obtain ⟨y1, rd⟩ := p
    cases rd with
    | next s =>
      obtain ⟨⟨y2, o⟩, hq, he⟩ := Option.map_eq_some_iff.1 (show (next s).map _ = some (ys, out) from h)
      simp only [Prod.mk.injEq] at he
      obtain ⟨rfl, rfl⟩ := he
      exact ⟨y1, _, y2 ++ tl, rfl, by simp, trivial, fun s' e => by cases e; exact ⟨y2, hq, rfl⟩⟩
    | done s =>
      simp only [stepW, Option.some.injEq, Prod.mk.injEq] at h
      obtain ⟨rfl, rfl⟩ := h
      exact ⟨y1, _, tl, rfl, rfl, ⟨rfl, rfl⟩, fun s' e => by cases e⟩
    | ret r =>
      simp only [stepW, Option.some.injEq, Prod.mk.injEq] at h
      obtain ⟨rfl, rfl⟩ := h
      exact ⟨y1, _, tl, rfl, rfl, ⟨rfl, rfl⟩, fun s' e => by cases e⟩
section
variable {X : Cx} {σ ρ α β : Type} {L : List (Nat × Pr)} {O R : List Ent} {Q : Exit → Act → World → Prop} {K : Act → World → Prop} {c : Code}
/-- Where the next round begins; S: what the consumer owns while zs is to come. -/
def NxW (X : Cx) (st : Rd σ ρ) (S : List β → List Ent → Prop) (zs : List β) (Li : σ → List (Nat × Pr)) (Oi : σ → List Ent → List Ent) (a : Act) (w : World) : Prop := ∃ s C, st = .next s ∧ S zs C ∧ Now X (Li s) (Oi s C) a w
theorem KJ_nxw {st : Rd σ ρ} {S : List β → List Ent → Prop} {zs : List β} {Li : σ → List (Nat × Pr)} {Oi : σ → List Ent → List Ent} (s : σ) {C : List Ent} (h : st = .next s) (hS : S zs C) (hL : Sub L (Li s)) (hO : O = Oi s C) : KJ X (NxW X st S zs Li Oi) L O :=
  fun a w h1 => ⟨s, C, h, hS, hO ▸ h1.sub hL⟩
theorem J_whileW {body : σ → Option (List β × Rd σ ρ)} {k : Nat} {s0 : σ} {ys : List β} {out : Fl σ ρ} (h : whileW body k s0 = some (ys, out)) (tl : List β) (S : List β → List Ent → Prop) {C0 : List Ent} (hS : S (ys ++ tl) C0) (Li : σ → List (Nat × Pr)) (Oi : σ → List Ent → List Ent) (hL : Sub L (Li s0)) (hO : O = Oi s0 C0)
    (round : ∀ s C st y1 zs, body s = some (y1, st) → FitsW st zs tl out → S (y1 ++ zs) C → J X c (Then (NxW X st S zs Li Oi) Q) (Li s) (Oi s C)) : J X (.loop c) Q L O := by
  refine J_loop_fuel (fun k a w => ∃ s C ys, whileW body k s = some (ys, out) ∧ S (ys ++ tl) C ∧ Now X (Li s) (Oi s C) a w) (fun a w h1 => ⟨k, s0, C0, ys, h, hS, hO ▸ h1.sub hL⟩) (fun k a w ⟨s, C, ys, hk, hS, hn⟩ => ?_)
  cases k with
  | zero => simp [whileW] at hk
  | succ k =>
    obtain ⟨y1, rd, zs, hb, hy, hf, hnx⟩ := stepW_some tl hk
    rw [hy] at hS
    refine wpIn_mono (round s C rd y1 zs hb hf hS a w hn) (fun e a w q => ?_)
    cases e with
    | normal =>
      obtain ⟨s', C', rfl, hS', hn'⟩ := q
      obtain ⟨y2, h2, rfl⟩ := hnx s' rfl
      exact ⟨k, Nat.lt_succ_self k, s', C', y2, h2, hS', hn'⟩
    | _ => exact q
theorem J_rangeW {body : Int → α → σ → Option (List β × Rd σ ρ)} {l : List α} {s0 : σ} {ys : List β} {out : Fl σ ρ} (h : rangeW body l 0 s0 = some (ys, out)) (tl : List β) (S : List β → List Ent → Prop) {C0 : List Ent} (hS : S (ys ++ tl) C0) (hlim : l.length ≤ lim) (Li : Int → σ → List (Nat × Pr)) (Oi : Int → σ → List Ent → List Ent) (hL : Sub L (Li 0 s0)) (hO : O = Oi 0 s0 C0)
    (nil : ∀ s C, out = .go s → S tl C → J X c (Then (fun _ _ => False) Q) (Li l.length s) (Oi l.length s C))
    (cons : ∀ (i : Int) x s C st y1 zs, 0 ≤ i → i < l.length → idx l i = some x → IntKind.i64.wrap (i + 1) = i + 1 → body i x s = some (y1, st) → FitsW st zs tl out → S (y1 ++ zs) C → J X c (Then (NxW X st S zs (Li (i + 1)) (Oi (i + 1))) Q) (Li i s) (Oi i s C)) : J X (.loop c) Q L O := by
  refine J_loop_fuel (fun k a w => ∃ pre rest s C ys, l = pre ++ rest ∧ k = rest.length ∧ rangeW body rest pre.length s = some (ys, out) ∧ S (ys ++ tl) C ∧ Now X (Li pre.length s) (Oi pre.length s C) a w)
    (fun a w h1 => ⟨l.length, [], l, s0, C0, ys, rfl, rfl, h, hS, hO ▸ h1.sub hL⟩) (fun k a w ⟨pre, rest, s, C, ys, hl, hk, hr, hS, hn⟩ => ?_)
  cases rest with
  | nil =>
    simp only [List.append_nil] at hl
    subst hl
    simp only [rangeW, Option.some.injEq, Prod.mk.injEq] at hr
    obtain ⟨rfl, hr⟩ := hr
    exact wpIn_mono (nil s C hr.symm hS a w hn) (fun e a w q => by cases e <;> first | exact q | exact q.elim)
  | cons x xs =>
    have hlen : l.length = pre.length + xs.length + 1 := by rw [hl]; simp; omega
    obtain ⟨y1, rd, zs, hb, hy, hf, hnx⟩ := stepW_some tl hr
    rw [hy] at hS
    refine wpIn_mono (cons pre.length x s C rd y1 zs (by omega) (by omega) (by simp [idx, hl]) (w64 (by omega) (by simp [lim] at hlim; omega)) hb hf hS a w hn) (fun e a w q => ?_)
    cases e with
    | normal =>
      obtain ⟨s', C', rfl, hS', hn'⟩ := q
      obtain ⟨y2, h2, rfl⟩ := hnx s' rfl
      have e1 : ((pre ++ [x]).length : Int) = pre.length + 1 := by simp
      exact ⟨xs.length, by rw [hk]; simp, pre ++ [x], xs, s', C', y2, by simp [hl], rfl, by rw [e1]; exact h2, hS', by rw [e1]; exact hn'⟩
    | _ => exact q
theorem J_countW {body : Int → σ → Option (List β × Rd σ ρ)} {n i0 : Int} {s0 : σ} {ys : List β} {out : Fl σ ρ} (h : countW body (n - i0).toNat i0 s0 = some (ys, out)) (tl : List β) (S : List β → List Ent → Prop) {C0 : List Ent} (hS : S (ys ++ tl) C0) (h0 : -9223372036854775808 ≤ i0) (h1 : n ≤ 9223372036854775807) (Li : Int → σ → List (Nat × Pr)) (Oi : Int → σ → List Ent → List Ent) (hL : Sub L (Li i0 s0)) (hO : O = Oi i0 s0 C0)
    (nil : ∀ (i : Int) s C, n ≤ i → out = .go s → S tl C → J X c (Then (fun _ _ => False) Q) (Li i s) (Oi i s C))
    (cons : ∀ (i : Int) s C st y1 zs, i0 ≤ i → i < n → IntKind.i64.wrap (i + 1) = i + 1 → body i s = some (y1, st) → FitsW st zs tl out → S (y1 ++ zs) C → J X c (Then (NxW X st S zs (Li (i + 1)) (Oi (i + 1))) Q) (Li i s) (Oi i s C)) : J X (.loop c) Q L O := by
  refine J_loop_fuel (fun k a w => ∃ i s C ys, i0 ≤ i ∧ k = (n - i).toNat ∧ countW body k i s = some (ys, out) ∧ S (ys ++ tl) C ∧ Now X (Li i s) (Oi i s C) a w)
    (fun a w h1 => ⟨_, i0, s0, C0, ys, Int.le_refl _, rfl, h, hS, hO ▸ h1.sub hL⟩) (fun k a w ⟨i, s, C, ys, hi, hk, hr, hS, hn⟩ => ?_)
  cases k with
  | zero =>
    simp only [countW, Option.some.injEq, Prod.mk.injEq] at hr
    obtain ⟨rfl, hr⟩ := hr
    exact wpIn_mono (nil i s C (by omega) hr.symm hS a w hn) (fun e a w q => by cases e <;> first | exact q | exact q.elim)
  | succ k =>
    obtain ⟨y1, rd, zs, hb, hy, hf, hnx⟩ := stepW_some tl hr
    rw [hy] at hS
    refine wpIn_mono (cons i s C rd y1 zs hi (by omega) (w64 (by omega) (by omega)) hb hf hS a w hn) (fun e a w q => ?_)
    cases e with
    | normal =>
      obtain ⟨s', C', rfl, hS', hn'⟩ := q
      obtain ⟨y2, h2, rfl⟩ := hnx s' rfl
      exact ⟨k, by omega, i + 1, s', C', y2, by omega, by omega, h2, hS', hn'⟩
    | _ => exact q
/-- Behind a loop that yields; tl is to come. -/
theorem J_cutw {out : Fl σ ρ} (S : List β → List Ent → Prop) (tl : List β) (Lo : σ → List (Nat × Pr)) (Oo : σ → List Ent → List Ent)
    (h : J X c (KQ (fun a w => ∃ s C, out = .go s ∧ S tl C ∧ Now X (Lo s) (Oo s C) a w) Q) L O) (k : ∀ s C, out = .go s → S tl C → KJ X (Q .normal) (Lo s) (Oo s C)) : J X c Q L O :=
  fun a w h1 => wpIn_mono (h a w h1) fun e a w q => by
    cases e with
    | normal => obtain ⟨s, C, e, hS, hn⟩ := q; exact k s C e hS a w hn
    | _ => exact q
theorem KJ_otw {out : Fl σ ρ} {S : List β → List Ent → Prop} {tl : List β} {Lo : σ → List (Nat × Pr)} {Oo : σ → List Ent → List Ent} (s : σ) {C : List Ent} (h : out = .go s) (hS : S tl C) (hL : Sub L (Lo s)) (hO : O = Oo s C) :
    KJ X (KQ (fun a w => ∃ s C, out = .go s ∧ S tl C ∧ Now X (Lo s) (Oo s C) a w) Q .normal) L O := fun a w h1 => ⟨s, C, h, hS, hO ▸ h1.sub hL⟩
end
theorem Lay.ptr : Rep.ptr.Lay 1 false := fun I v x h => by
  have h : v = .pointer (some ⟨x.1, x.2, none⟩) := h
  subst h; simp [Value.oneCell']
theorem JLv {X : Cx} {ops : Array Oper} {L : List (Nat × Pr)} {K : Act → World → Prop} {O : List Ent} {rest : List Oper} {d : Nat} {op : Op} {ty : TypeId} {pos : String} {aft : Array Edge} {g : Option (Nat × Bool)} {ι : Type} {φ : ι → Pr} {ε : ι → List Ent} (h : Te X.P ⟨some d, op, ty, pos, aft, g⟩ L [] φ ε) (hd : Nat.blt d X.N = true) (hg : Gd ops L g)
    (k : ∀ i, JL X ops rest K ((d, φ i) :: L) (ε i ++ O)) : JL X ops (⟨some d, op, ty, pos, aft, g⟩ :: rest) K L O := JLe (κ := []) h hd hg k
/-- An operation that reads what is owned and hands it back, in any order. -/
theorem Os.b {X : Cx} {ops : Array Oper} {o : Oper} {M : List (Nat × Pr)} {e : Ent} {φ : Unit → Pr} (h : Te X.P o M [e] φ (fun _ : Unit => [e])) (hg : Gd ops M o.guard) : Os X ops o M [e] [] (fun _ => φ ()) (fun _ => []) := fun a w I R next Q h1 h2 h3 k => by
  rw [hg.wanted h1, if_pos rfl]
  obtain ⟨s, t, hst⟩ := List.append_of_mem (h2 e (by simp))
  subst hst
  have hp : (s ++ e :: t).Perm (e :: (s ++ t)) := List.perm_middle
  exact h X.r X.N X.D a w I (s ++ t) next Q h1 (h3.perm hp) fun i v I' w' hI hv hs => k v I' w' hI hv (hs.perm hp.symm)
theorem DR.b {X : Cx} {ops : Array Oper} {all rest : List Oper} {L0 M : List (Nat × Pr)} {Ks O0 : List Ent} {K : Act → World → Prop} {rd : List De} {d : Nat} {op : Op} {ty : TypeId} {pos : String} {aft : Array Edge} {g : Option (Nat × Bool)} {e : Ent} {φ : Unit → Pr}
    (hM : Dr rd L0 (bdeps ⟨some d, op, ty, pos, aft, g⟩) M) (h : Te X.P ⟨some d, op, ty, pos, aft, g⟩ M [e] φ (fun _ : Unit => [e])) (hg : Gd ops M g) (hN : Nat.blt d X.N = true) (hf : fresh d rd L0 = true) (hB : ∀ x ∈ [e], x ∈ O0)
    (r : DR X ops all L0 Ks O0 K (.c d (φ ()) :: rd) rest) : DR X ops all L0 Ks O0 K rd (⟨some d, op, ty, pos, aft, g⟩ :: rest) :=
  .step (e := .c d (φ ())) (B := [e]) hM.out rfl (fun _ e' => by cases e'; exact hN) (fun _ e' => by cases e'; exact fresh_rev hf) hB (Os.b h hg) (by simpa [DR] using r)
/-- A slice of a slice, its room cut too. -/
theorem sl_partm {α : Type} {ρ : Rep α} {n : Nat} {l r : List α} {lo hi : Int} {A : Option Addr} {c m : Nat} {I : Imm} (h : slc l lo hi = some r) (hv : (ρ.sl n).rd I (.slice A l.length c) l) (hm : hi.toNat ≤ m) (hmc : m ≤ c) :
    (ρ.sl n).rd I (.slice (if m = lo.toNat then A else A.map (·.add (lo.toNat * n))) (hi.toNat - lo.toNat) (m - lo.toNat)) r := by
  obtain ⟨h0, h1, h2, rfl⟩ := slc_some h
  obtain ⟨A', c', e, hl, hc, hn, hk⟩ := hv
  simp only [Value.slice.injEq, true_and] at e
  obtain ⟨rfl, rfl⟩ := e
  have hlen : ((l.drop lo.toNat).take (hi - lo).toNat).length = hi.toNat - lo.toNat := by
    rw [List.length_take, List.length_drop]; omega
  refine ⟨_, _, by rw [hlen], by omega, by omega, fun hA => ?_, fun a ha => ?_⟩
  · split at hA
    · rename_i e; omega
    · cases A with
      | none => have := hn rfl; omega
      | some a => simp at hA
  · by_cases e : m = lo.toNat
    · rw [if_pos e] at ha
      refine ⟨fun hp => (hk a ha).1 (by omega), fun i hi' => ?_⟩
      rw [hlen] at hi'
      omega
    · rw [if_neg e] at ha
      cases A with
      | none => simp at ha
      | some a0 =>
        simp only [Option.map_some, Option.some.injEq] at ha
        subst ha
        have hk0 := hk a0 rfl
        refine ⟨fun hp => by rw [add_off' (hk0.1 (by omega))], fun i hi' => ?_⟩
        rw [hlen] at hi'
        rw [add_off' (hk0.1 (by omega))]
        obtain ⟨u, u1, u2⟩ := hk0.2 (lo.toNat + i) (by omega)
        refine ⟨u, by simpa using u1, fun j hj => ?_⟩
        have := u2 j hj
        rw [show a0.off + lo.toNat * n + i * n + j = a0.off + (lo.toNat + i) * n + j by rw [Nat.add_mul]; omega]
        exact this
theorem T_slice_lhm {α : Type} {ρ : Rep α} {P : Program} {T E n bytes : Nat} {L : List (Nat × Pr)} {d : Option Nat} {ty : TypeId} {pos : String} {aft : Array Edge} {gd : Option (Nat × Bool)} {x y z z' : Operand} {l r : List α} {lo hi : Int} {k1 k2 k3 : IntKind} (ht : Sl P T E n bytes) (h : Arg L x ((ρ.sl n).at l)) (h1 : lkO L y = some ((Rep.int k1).at lo)) (h2 : lkO L z = some ((Rep.int k2).at hi)) (h3 : lkO L z' = some ((Rep.int k3).at hi)) (hr : slc l lo hi = some r) :
    Tp P ⟨d, .slice T x (some y) (some z) (some z'), ty, pos, aft, gd⟩ L [] ((ρ.sl n).at r) :=
  ⟨(nofun), fun N D a w I O hh _ _ => by
    have hv := h.ok hh
    obtain ⟨A, c, e, hl, hc, _⟩ := h.ok hh
    obtain ⟨g0, g1, g2, _⟩ := slc_some hr
    refine ⟨_, ?_, sl_partm hr (e ▸ hv) (Nat.le_refl hi.toNat) (by omega)⟩
    show (((Instr.sliceAt T (a.eval x) (some (a.eval y)) (some (a.eval z)) (some (a.eval z'))) >>= fun v => pure (Next.value v)) : Sem Next).run P w = _
    rw [e, lkI hh h1, lkI hh h2, lkI hh h3]
    simp [Instr.sliceAt, Instr.slice, run_underlying ht.un, Instr.sliceBounds, Instr.sliceBound, asIntOf, Sl.size ht, g0, show 0 ≤ hi by omega, show hi ≤ (c : Int) by omega]
    rw [if_pos (by omega), if_pos (by omega)]⟩
/-! ### Ranges over functions that are left by their end or a break alone -/
def eachN {α σ : Type} (body : α → σ → Option (Rd σ Empty)) : List α → σ → Option σ
  | [], s => some s
  | x :: xs, s => match body x s with
    | none => none
    | some (.next s') => eachN body xs s'
    | some (.done s') => some s'
theorem eachN_F {α σ : Type} {body : α → σ → Option (Rd σ Empty)} : ∀ {xs : List α} {s t : σ}, eachN body xs s = some t → eachF body xs s = some (.go t)
  | [], s, t, h => by simp only [eachN, Option.some.injEq] at h; simp [eachF, h]
  | x :: xs, s, t, h => by
    simp only [eachN, eachF] at h ⊢
    cases hb : body x s with
    | none => simp [hb] at h
    | some st =>
      cases st with
      | next s' => simp only [hb] at h ⊢; exact eachN_F h
      | done s' => simp only [hb, Option.some.injEq] at h ⊢; rw [h]
      | ret r => exact r.elim
section
variable {X : Cx} {σ γ α : Type} {L : List (Nat × Pr)} {O R : List Ent} {Q : Exit → Act → World → Prop} {K : Act → World → Prop} {π : Rep α}
theorem J_rforN {γ' : Type} {xs : List α} {body : α → σ → Option (Rd σ Empty)} {s0 out : σ} {g : Operand} {t id : Nat} {asg bod : Code} (h : eachN body xs s0 = some out) (Lr : List (Nat × Pr)) (La : α → γ' → List (Nat × Pr)) (Ea : α → γ' → List Ent) (Ei : σ → γ → List Ent) (g0 : γ)
    (hr : X.r = none) (hg : Arg L g ((Rep.iter X.P π).at xs)) (hL : Sub L Lr) (hO : O = Ei s0 g0 ++ R) (hN : Nat.blt t X.N = true)
    (ha : ∀ l I1 R1 x s gh, J ⟨X.P, some l, X.N, [], I1⟩ asg (Then (fun a w => ∃ gx, Now ⟨X.P, some l, X.N, [], I1⟩ (La x gx) ((Ea x gx ++ Ei s gh) ++ R1) a w) (fun _ _ _ => False)) ((t, π.at x) :: Lr) (Ei s gh ++ R1))
    (round : ∀ l I1 R1 x gx s gh st, body x s = some st → J ⟨X.P, some l, X.N, [], I1⟩ bod (RQ ⟨X.P, some l, X.N, [], I1⟩ st Ei (fun (e : Empty) _ => e.elim) (some id) R1) (La x gx) ((Ea x gx ++ Ei s gh) ++ R1))
    (nrm : ∀ r gh, KJ { X with D := markD r :: X.D } (Q .normal) Lr (Ent.mark r :: (Ei out gh ++ R))) :
    J X (.block id (.rangeFunc g #[t] asg bod)) Q L O := by
  refine J_block ?_
  refine J_rfor (eachN_F h) (some id) Lr La Ea Ei (fun (e : Empty) _ => e.elim) g0 hr hg hL hO hN ha (fun l I1 R1 x gx s gh st hb _ => round l I1 R1 x gx s gh st hb) (fun r s gh e => ?_) (fun i hi r s gh e => ?_) (fun r v _ _ => v.elim)
  · cases e; exact nrm r gh
  · cases hi; cases e; exact KJ_exit_here (nrm r gh)
theorem KJ_rfa {X1 : Cx} {γ' : Type} {La : γ' → List (Nat × Pr)} {Oa : γ' → List Ent} {Q' : Exit → Act → World → Prop} (gx : γ') (hL : Sub L (La gx)) (hO : O = Oa gx) : KJ X1 (Then (fun a w => ∃ gx, Now X1 (La gx) (Oa gx) a w) Q' .normal) L O :=
  fun a w h1 => ⟨gx, (hO ▸ h1).sub hL⟩
theorem KJ_rq {st : Rd σ Empty} {Ei : σ → γ → List Ent} {Er : Empty → γ → List Ent} {bx : Option Nat} {R1 : List Ent} (s : σ) (g : γ) (h : st = .next s) (hO : O = Ei s g ++ R1) : KJ X (RQ X st Ei Er bx R1 .normal) L O :=
  fun a w h1 => ⟨s, g, h, (hO ▸ h1).sub (Sub.nil _)⟩
theorem KJ_retM1 {P : Program} {fn : Func} {O M J R : List Ent} {ι : Type} {φ : ι → Pr} {ε : ι → List Ent} {ψ : Pr} {rv : ResultVar} {N : Nat} {D : List Deferred} {I0 : Imm} (i : ι) (hm : marks D M) (hO : O = M ++ (J ++ (ε i ++ R))) (hrs : fn.results = #[rv]) (hv : Rv P [rv] L (J ++ (ε i ++ R)) [ψ]) (hψ : φ i = ψ) : KJ ⟨P, none, N, D, I0⟩ (bodyPostM (wide none) 0 P fn (Post I0 R φ ε) .ret) L O :=
  KJ_retM (X := ⟨P, none, N, D, I0⟩) hm hO hrs hv fun I vs h => by
    subst hψ
    match vs, h with
    | [v], h => simpa using h.1
theorem KJ_retMn {P : Program} {fn : Func} {O M J R : List Ent} {ι : Type} {φ : ι → Pr} {ε : ι → List Ent} {rs : List ResultVar} {φs : List Pr} {N : Nat} {D : List Deferred} {I0 : Imm} (i : ι) (hm : marks D M) (hO : O = M ++ (J ++ (ε i ++ R))) (hrs : fn.results = rs.toArray) (hv : Rv P rs L (J ++ (ε i ++ R)) φs) (hψ : φ i = Pr.tup φs) (h1 : φs.length ≠ 1) : KJ ⟨P, none, N, D, I0⟩ (bodyPostM (wide none) 0 P fn (Post I0 R φ ε) .ret) L O :=
  KJ_retM (X := ⟨P, none, N, D, I0⟩) hm hO hrs hv fun I vs h => by
    rw [hψ]
    have := h.length
    rw [dif_neg (by omega)]
    exact ⟨vs, rfl, h⟩
end
end Go.J
end
section
set_option linter.unusedVariables false
set_option linter.unusedSimpArgs false
namespace Go.J
section
variable {α β γ σ τ σ' τ' : Type} {P : Program} {T E n m : Nat} {ρ ρ' : Rep α} {π : Rep β} {g g' : Bool}
/-- A part that is set, the whole read otherwise afterwards. -/
def SetG {α α' β : Type} (ρ : Rep α) (ρ' : Rep α') (off : Nat) (π : Rep β) (up : α → β → α') : Prop :=
  ∀ I v x u y, ρ.rd I v x → π.rd I u y → off + u.cells.size ≤ v.cells.size ∧ ∃ v', ρ'.rd I v' (up x y) ∧ v'.cells = over v.cells off u.cells
theorem SetG.self {α α' : Type} {ρ : Rep α} {ρ' : Rep α'} (h : ρ.Lay n g) (h' : ρ'.Lay n g') : SetG ρ ρ' 0 ρ' (fun _ y => y) := fun I v x u y a b => by
  have q1 := (Lay.cells h a).1
  have q2 := (Lay.cells h' b).1
  refine ⟨by omega, u, b, ?_⟩
  have : v.cells.toList.length = u.cells.size := by simp [q1, q2]
  simp [over, List.drop_of_length_le (Nat.le_of_eq this)]
theorem SetG.head {α α' β : Type} {ρ : Rep α} {ρ' : Rep α'} {π : Rep β} (h1 : ρ.Lay n g) (h2 : ρ'.Lay n g') : SetG (ρ.cons π) (ρ'.cons π) 0 ρ' (fun x y => (y, x.2)) := fun I v x u y a b => by
  obtain ⟨u0, cs, a, b0, rfl⟩ := a
  have q1 := (Lay.cells h1 a).1
  have q2 := (Lay.cells h2 b).1
  refine ⟨by simp [Value.cells] at q1 q2 ⊢; omega, .agg (u.cells ++ cs), ⟨u, cs, b, b0, rfl⟩, ?_⟩
  have e : u0.cells.toList.length = u.cells.size := by simp [q1, q2]
  show u.cells ++ cs = over (u0.cells ++ cs) 0 u.cells
  apply Array.ext'
  simp only [over, Array.toList_append, List.take_zero, List.nil_append, Nat.zero_add]
  rw [← e, List.drop_left]
/-- The part's own part is set. -/
theorem SetG.headIn {α α' β γ : Type} {ρ : Rep α} {ρ' : Rep α'} {π : Rep β} {ψ : Rep γ} {off : Nat} {up : α → γ → α'} (h1 : ρ.Lay n g) (h2 : ρ'.Lay n g') (h : SetG ρ ρ' off ψ up) : SetG (ρ.cons π) (ρ'.cons π) off ψ (fun x y => (up x.1 y, x.2)) := fun I v x u y a b => by
  obtain ⟨u0, cs, a, b0, rfl⟩ := a
  have q1 := (Lay.cells h1 a).1
  obtain ⟨k1, v', k2, k3⟩ := h I _ _ u y a b
  have q2 := (Lay.cells h2 k2).1
  refine ⟨by simp [Value.cells] at q1 k1 ⊢; omega, .agg (v'.cells ++ cs), ⟨v', cs, k2, b0, rfl⟩, ?_⟩
  show v'.cells ++ cs = over (u0.cells ++ cs) off u.cells
  rw [k3]
  apply Array.ext'
  simp only [over, Array.toList_append, List.toList_toArray]
  have t1 : (u0.cells.toList ++ cs.toList).take off = u0.cells.toList.take off := by rw [List.take_append_of_le_length (by simp; omega)]
  have t2 : (u0.cells.toList ++ cs.toList).drop (off + u.cells.size) = u0.cells.toList.drop (off + u.cells.size) ++ cs.toList := by rw [List.drop_append_of_le_length (by simp; omega)]
  rw [t1, t2]; simp only [List.append_assoc]
theorem SetG.tail {α β β' γ : Type} {ρ : Rep α} {π : Rep β} {π' : Rep β'} {ψ : Rep γ} {off : Nat} {up : β → γ → β'} (h1 : ρ.Lay n g) (h2 : SetG π π' off ψ up) (h3 : ∀ I v x, π'.rd I v x → ∃ cs, v = .agg cs) : SetG (ρ.cons π) (ρ.cons π') (n + off) ψ (fun x y => (x.1, up x.2 y)) := fun I v x u y a b => by
  obtain ⟨u0, cs, a, b0, rfl⟩ := a
  have q1 := (Lay.cells h1 a).1
  obtain ⟨k1, v', k2, k3⟩ := h2 I _ _ u y b0 b
  obtain ⟨cs', rfl⟩ := h3 I _ _ k2
  refine ⟨by simp [Value.cells] at q1 k1 ⊢; omega, .agg (u0.cells ++ cs'), ⟨u0, cs', a, k2, rfl⟩, ?_⟩
  have e : u0.cells.toList.length = n := by simpa using q1
  have k3 : cs' = over cs off u.cells := k3
  show u0.cells ++ cs' = over (u0.cells ++ cs) (n + off) u.cells
  subst k3
  apply Array.ext'
  simp only [over, Array.toList_append, List.toList_toArray]
  have t1 : u0.cells.toList.take (n + off) = u0.cells.toList := List.take_of_length_le (by omega)
  have t2 : u0.cells.toList.drop (n + off + u.cells.size) = [] := List.drop_eq_nil_of_le (by omega)
  have t3 : n + off + u.cells.size - n = off + u.cells.size := by omega
  rw [List.take_append, List.drop_append, t1, t2, e, t3]
  simp only [Nat.add_sub_cancel_left, List.append_assoc, List.nil_append]
theorem SetG.iso {γ : Type} {ψ : Rep γ} {off : Nat} {f : σ → τ} {f' : σ' → τ'} {k : τ' → σ'} (hfg : ∀ x, f' (k x) = x) {π : Rep τ} {π' : Rep τ'} {up : τ → γ → τ'} (h : SetG π π' off ψ up) : SetG (Rep.iso f π) (Rep.iso f' π') off ψ (fun x y => k (up (f x) y)) :=
  fun I v x u y a b => by
    obtain ⟨k1, v', k2, k3⟩ := h I v (f x) u y a b
    exact ⟨k1, v', by show π'.rd I v' (f' (k _)); rw [hfg]; exact k2, k3⟩
theorem agg_cons {α β : Type} {ρ : Rep α} {π : Rep β} : ∀ I v x, (ρ.cons π).rd I v x → ∃ cs, v = .agg cs := fun I v x h => by obtain ⟨u, cs, _, _, h⟩ := h; exact ⟨_, h⟩
/-- Read otherwise. -/
def Clp {α α' : Type} (ρ : Rep α) (ρ' : Rep α') (I : Imm) (x : α) (x' : α') : Prop := ∀ v, ρ.rd I v x → ρ'.rd I v x'
theorem Clp.sl {α : Type} {ρ : Rep α} {I : Imm} {s : Value} {l : List α} (h : (ρ.sl n).rd I s l) : Clp Rep.slv (ρ.sl n) I s l := fun v hv => by
  obtain ⟨rfl, _⟩ := hv; exact h
theorem Clp.head {α α' β : Type} {ρ : Rep α} {ρ' : Rep α'} {π : Rep β} {I : Imm} {a : α} {a' : α'} {b : β} (h : Clp ρ ρ' I a a') : Clp (ρ.cons π) (ρ'.cons π) I (a, b) (a', b) := fun v hv => by
  obtain ⟨u, cs, h1, h2, h3⟩ := hv
  exact ⟨u, cs, h u h1, h2, h3⟩
theorem Clp.tail {α β β' : Type} {ρ : Rep α} {π : Rep β} {π' : Rep β'} {I : Imm} {a : α} {b : β} {b' : β'} (h : Clp π π' I b b') : Clp (ρ.cons π) (ρ.cons π') I (a, b) (a, b') := fun v hv => by
  obtain ⟨u, cs, h1, h2, h3⟩ := hv
  exact ⟨u, cs, h1, h _ h2, h3⟩
theorem Clp.iso {f : σ → τ} {f' : σ' → τ'} {π : Rep τ} {π' : Rep τ'} {I : Imm} {x : σ} {x' : σ'} (h : Clp π π' I (f x) (f' x')) : Clp (Rep.iso f π) (Rep.iso f' π') I x x' := fun v hv => h v hv
variable {X : Cx} {L : List (Nat × Pr)} {O : List Ent} {Q : Exit → Act → World → Prop} {K : Act → World → Prop} {c : Code} {ops : Array Oper} {lo : List Oper} {d : Option Nat} {ty : TypeId} {pos : String} {aft : Array Edge} {gd : Option (Nat × Bool)} {x y : Operand}
/-- A box whose hole's row is never written again. -/
theorem Now.close {α α' δ : Type} {ρ : Rep α} {ρ' : Rep α'} {π : Rep δ} {b : Nat} {v : α} {v' : α'} {s : Value} {l : List δ} {a : Act} {w : World} (hc : ∀ I, (π.sl n).rd I s l → Clp ρ ρ' I v v') (h : Now X L (Ent.row s E n π l :: Ent.box b ρ v :: O) a w) : Now X L (Ent.box b ρ' v' :: O) a w := by
  obtain ⟨I, h0, h1, h2⟩ := h
  obtain ⟨I', hI, hs, hr⟩ := h2.freezeRow
  refine ⟨I', h0.trans hI, h1.mono hI, ⟨hs.imm, hs.env, fun e he => ?_, by have := hs.dis; simpa [List.flatMap_cons, Ent.box] using this⟩⟩
  rcases List.mem_cons.1 he with rfl | he
  · obtain ⟨u, e, q1, q2, q3, q4⟩ := hs.own (Ent.box b ρ v) (List.mem_cons_self ..)
    exact ⟨u, e, q1, hc I' hr u q2, q3, q4⟩
  · exact hs.own e (List.mem_cons_of_mem _ he)
theorem JL_close {α α' δ : Type} {ρ : Rep α} {ρ' : Rep α'} {π : Rep δ} {b : Nat} {v : α} (v' : α') {s : Value} {l : List δ} (hc : ∀ I, (π.sl n).rd I s l → Clp ρ ρ' I v v') (k : JL X ops lo K L (Ent.box b ρ' v' :: O)) : JL X ops lo K L (Ent.row s E n π l :: Ent.box b ρ v :: O) := fun a w Q hQ h => k a w Q hQ (h.close hc)
theorem KJ_close {α α' δ : Type} {ρ : Rep α} {ρ' : Rep α'} {π : Rep δ} {b : Nat} {v : α} (v' : α') {s : Value} {l : List δ} (hc : ∀ I, (π.sl n).rd I s l → Clp ρ ρ' I v v') (k : KJ X K L (Ent.box b ρ' v' :: O)) : KJ X K L (Ent.row s E n π l :: Ent.box b ρ v :: O) := fun a w h => k a w (h.close hc)
theorem St.setBoxG {α α' β : Type} {ρ : Rep α} {ρ' : Rep α'} {π : Rep β} {I : Imm} {R : List Ent} {w : World} {b o : Nat} {v : α} {z : β} {u : Value} {up : α → β → α'} (s : St I (Ent.box b ρ v :: R) w) (hu : π.rd I u z) (h1 : ∀ c ∈ u.cells, c.oneCell' = true) (hs : SetG ρ ρ' o π up) :
    ∃ w', (storeCells ⟨b, o, none⟩ u.cells.toList).run P w = .ok () w' ∧ St I (Ent.box b ρ' (up v z) :: R) w' := by
  obtain ⟨U, E, q1, q2, q3, q4⟩ := s.own (Ent.box b ρ v) (List.mem_cons_self ..)
  have q1 : w.heap[b]? = some (.cells U.cells E (0, 0)) := q1
  obtain ⟨k1, U', k2, k3⟩ := hs I U v u z q2 hu
  have hrun := run_storeCells_at (P := P) b o E u.cells.toList 0 U.cells w q1 (by simpa using k1) (by simpa using h1)
  refine ⟨_, hrun, ?_⟩
  simp only [Nat.add_zero, Array.length_toList] at hrun ⊢
  have e : (U.cells.toList.take o ++ u.cells.toList ++ U.cells.toList.drop (o + u.cells.size)).toArray = U'.cells := by rw [k3]; rfl
  rw [e]
  have hb : ∀ e ∈ R, b ∉ e.blk := fun e he hb => s.row_other he (b := b) (by simp [Ent.box]) hb
  refine ⟨fun b' o' v' h => ?_, s.env, fun e he => ?_, ?_⟩
  · have hne : b' ≠ b := fun e => by subst e; rw [q3] at h; cases h
    rw [cell_setRow_other w b _ ⟨b', o', none⟩ hne]
    exact s.imm b' o' v' h
  · rcases List.mem_cons.1 he with rfl | he
    · refine ⟨U', E, setRow_heap w b _ _ E (0, 0) q1, k2, q3, fun c hc => ?_⟩
      rw [k3] at hc
      have hc' : c ∈ (U.cells.toList.take o ++ u.cells.toList ++ U.cells.toList.drop (o + u.cells.size)) := by simpa [over] using hc
      rcases List.mem_append.1 hc' with hc' | hc'
      · rcases List.mem_append.1 hc' with hc' | hc'
        · exact q4 c (by simpa using List.mem_of_mem_take hc')
        · exact h1 c (by simpa using hc')
      · exact q4 c (by simpa using List.mem_of_mem_drop hc')
    · exact e.ext (Imm.le.refl I) (fun _ _ => rfl) (fun b' hb' => setRow_other w b b' _ (fun e' => hb e he (e' ▸ hb'))) (s.own e (List.mem_cons_of_mem _ he))
  · have := s.dis
    simpa [List.flatMap_cons, Ent.box] using this
theorem T_storeG {α α' β : Type} {ρ : Rep α} {ρ' : Rep α'} {π : Rep β} {v : α} {z : β} {b o : Nat} {up : α → β → α'} (v' : α') (ht : Ty P T π n g) (h : lkO L x = some (Rep.ptr.at (b, o))) (hy : Arg L y (π.at z)) (hs : SetG ρ ρ' o π up) (e : up v z = v') :
    Te P ⟨d, .store T x y, ty, pos, aft, gd⟩ L [Ent.box b ρ v] (fun _ : Unit => Pr.top) (fun _ => [Ent.box b ρ' v']) :=
  fun r N D a w I R next Q h1 h2 k => by
    subst e
    have e : a.eval x = .pointer (some ⟨b, o, none⟩) := lkO_ok h1 h
    have hv := hy.ok h1
    have q := Lay.cells ht.lay hv
    obtain ⟨w', hrun, s⟩ := St.setBoxG (P := P) h2 hv q.2.1 hs
    refine wpIn_of_skip (w' := w') (nofun) ?_ (k () undef I w' (Imm.le.refl I) trivial s)
    show (((Instr.storeAt T (a.eval x) (a.eval y)) >>= fun _ => pure Next.skip) : Sem Next).run P w = _
    rw [e]
    simp only [Instr.storeAt, Instr.sureAddr, Sem.run_bind]
    rw [show (pure (⟨b, o, none⟩ : Addr) : Sem Addr).run P w = .ok ⟨b, o, none⟩ w from rfl]
    simp only [Result.andThen, storeVar, Sem.run_bind, ht.size, q.1, ne_eq, not_true, if_false, hrun]
    rfl
/-- What is known of a slice's value, told of a temporary that holds it. -/
theorem Has.alias {δ : Type} {π : Rep δ} {N : Nat} {D : List Deferred} {I : Imm} {a : Act} {t : Nat} {s : Value} {l : List δ} (h : Has N D L I a) (ht : lk L t = some (Rep.slv.at s)) (hr : (π.sl n).rd I s l) : Has N D ((t, (π.sl n).at l) :: L) I a :=
  ⟨h.sz, h.df, fun u ψ e => by
    simp only [lk] at e
    by_cases hu : t = u
    · subst hu
      simp at e; subst e
      obtain ⟨v, e1, e2⟩ := h.tm t _ ht
      obtain ⟨rfl, _⟩ := e2
      exact ⟨v, e1, hr⟩
    · have hb : Nat.beq t u = false := by cases h : Nat.beq t u with | false => rfl | true => exact absurd (Nat.eq_of_beq_eq_true h) hu
      rw [hb] at e
      exact h.tm u ψ e⟩
theorem Now.freezes {δ : Type} {π : Rep δ} {a : Act} {w : World} {s : Value} {l : List δ} (k : Now X L (Ent.row s E n π l :: O) a w) {t1 t2 : Nat} (h1 : lk L t1 = some (Rep.slv.at s)) (h2 : lk ((t1, (π.sl n).at l) :: L) t2 = some (Rep.slv.at s)) : Now X ((t2, (π.sl n).at l) :: (t1, (π.sl n).at l) :: L) O a w := by
  obtain ⟨I, h0, hh, hs⟩ := k
  obtain ⟨I', hI, hs', hr⟩ := hs.freezeRow
  exact ⟨I', h0.trans hI, ((hh.mono hI).alias h1 hr).alias h2 hr, hs'⟩
theorem JL_freeze2 {δ : Type} {π : Rep δ} (t1 t2 : Nat) {s : Value} {l : List δ} (h1 : lk L t1 = some (Rep.slv.at s)) (h2 : lk ((t1, (π.sl n).at l) :: L) t2 = some (Rep.slv.at s)) (k : JL X ops lo K ((t2, (π.sl n).at l) :: (t1, (π.sl n).at l) :: L) O) : JL X ops lo K L (Ent.row s E n π l :: O) := fun a w Q hQ h => k a w Q hQ (h.freezes h1 h2)
end
end Go.J
end
section
set_option linter.unusedVariables false
set_option linter.unusedSimpArgs false
namespace Go.J
section
variable {α β : Type} {P : Program} {T E n m len : Nat} {ρ : Rep α} {π : Rep β} {g : Bool}
variable {L : List (Nat × Pr)} {d : Option Nat} {ty : TypeId} {pos : String} {aft : Array Edge} {gd : Option (Nat × Bool)} {x y : Operand} {φ : Pr}
def inB (len : Nat) (i : Int) : Option Unit := if 0 ≤ i ∧ i < len then some () else none
theorem inB_some {i : Int} {u : Unit} (h : inB len i = some u) : 0 ≤ i ∧ i < len := by
  unfold inB at h
  split at h
  · rename_i h0; exact h0
  · cases h
/-- The place of an element of an array of the call's own. -/
theorem T_ixb {i : Int} {k : IntKind} {b : Nat} {u : Unit} (ha : Ar P T E n len) (hlen : 1 < len) (h : lkO L x = some (Rep.ptr.at (b, 0))) (hy : lkO L y = some ((Rep.int k).at i)) (hi : inB len i = some u) :
    Tp P ⟨d, .indexAddr T x y, ty, pos, aft, gd⟩ L [] (Rep.ptr.at (b, i.toNat * n)) :=
  ⟨(nofun), fun N D a w I O hh hB hs => by
    have e1 : a.eval x = .pointer (some ⟨b, 0, none⟩) := lkO_ok hh h
    have ei := lkI hh hy
    obtain ⟨h0, h1⟩ := inB_some hi
    refine ⟨_, ?_, rfl⟩
    show (((Instr.indexAt T (a.eval x) (a.eval y)) >>= fun v => pure (Next.value v)) : Sem Next).run P w = _
    rw [e1, ei]
    simp [Instr.indexAt, asIntOf, run_underlying ha.1, ha.size, h0, h1, add_off, Instr.sureAddr, show ¬ len ≤ 1 by omega]⟩
theorem HasF.arrI {i : Int} {e : α} (l : List α) (hi : idx l i = some e) (hlen : l.length = len) : HasF (ρ.arr n len) (i.toNat * n) ρ (fun l => (idx l i).getD e) := fun I v x hx => by
  obtain ⟨h0, h1, _⟩ := idx_some hi
  have hxl : x.length = len := hx.1
  have hx2 : idx x i = some x[i.toNat] := by simp [idx, h0, show i.toNat < x.length by omega]
  obtain ⟨u, u1, u2, u3⟩ := arr_get hx hx2
  exact ⟨u, by show ρ.rd I u ((idx x i).getD e); rw [hx2]; exact u1, fun j hj => u3 j hj⟩
theorem T_loada {l : List α} {i : Int} {e : α} {b p : Nat} {pr : α → β} (ht : Ty P T π m g) (h : lkO L x = some (Rep.ptr.at (b, i.toNat * n + p))) (hi : idx l i = some e) (hf : HasF ρ p π pr) :
    Tp P ⟨d, .load T x, ty, pos, aft, gd⟩ L [Ent.box b (ρ.arr n len) l] (π.at (pr e)) :=
  ⟨(nofun), fun N D a w I O h1 hB h2 => by
    obtain ⟨u, eT, q1, q2, q3, q4⟩ := h2.own _ (hB _ (List.mem_singleton.2 rfl))
    have := (T_loadb (d := d) (ty := ty) (pos := pos) (aft := aft) (gd := gd) ht h (HasF.comp (HasF.arrI l hi q2.1) hf)).2 N D a w I O h1 hB h2
    simpa [hi] using this⟩
theorem SetF.arrI {i : Int} {u : Unit} (hi : inB len i = some u) (hl : ρ.Lay n g) : SetF (ρ.arr n len) (i.toNat * n) ρ (fun l y => setI l i y) := by
  obtain ⟨_, h1⟩ := inB_some hi
  exact SetF.arr (k := i.toNat) (by omega) hl
/-- A store into an element of an array of the call's own. -/
theorem T_storea {l : List α} {i : Int} {z : α} {u : Unit} {b : Nat} (ht : Ty P T ρ n g) (h : lkO L x = some (Rep.ptr.at (b, i.toNat * n))) (hy : Arg L y (ρ.at z)) (hi : inB len i = some u) :
    Te P ⟨d, .store T x y, ty, pos, aft, gd⟩ L [Ent.box b (ρ.arr n len) l] (fun _ : Unit => Pr.top) (fun _ => [Ent.box b (ρ.arr n len) (setI l i z)]) :=
  T_store ht h hy (SetF.arrI hi ht.lay)
/-- The whole of an array as a slice; the array is never written again. -/
theorem T_slicea {l : List α} {b : Nat} (ha : Ar P T E n len) (hl : len ≤ lim) (hn : 0 < n) (h : lkO L x = some (Rep.ptr.at (b, 0))) :
    Te P ⟨d, .slice T x none none none, ty, pos, aft, gd⟩ L [Ent.box b (ρ.arr n len) l] (fun _ : Unit => (ρ.sl n).at l) (fun _ => []) :=
  fun r N D a w I R next Q h1 h2 k => by
    have e1 : a.eval x = .pointer (some ⟨b, 0, none⟩) := lkO_ok h1 h
    obtain ⟨I', hI, hs, v, hv, hseg⟩ := h2.freeze
    have hll : l.length = len := hv.1
    refine wpIn_of_run (v := .slice (some ⟨b, 0, none⟩) len len) (w' := w) (nofun) ?_ (k () _ I' w hI ⟨some ⟨b, 0, none⟩, len, by rw [hll], by omega, by omega, (by intro h; cases h), fun ad had => ?_⟩ hs)
    · show (((Instr.sliceAt T (a.eval x) none none none) >>= fun v => pure (Next.value v)) : Sem Next).run P w = _
      rw [e1]
      simp [Instr.sliceAt, run_underlying ha.1, Instr.sureAddr, Instr.sliceBounds, ha.size, add_off]
    · simp only [Option.some.injEq] at had
      subst had
      refine ⟨fun _ => rfl, fun i hi => ?_⟩
      have hix : idx l (i : Int) = some l[i] := by simp [idx, hi]
      obtain ⟨u, u1, u2, u3⟩ := arr_get hv hix
      refine ⟨u, u1, fun j hj => ?_⟩
      have h3 := u3 j hj
      simp only [Int.toNat_natCast] at h3
      have h4 : i * n + j < v.cells.size := (Array.getElem?_eq_some_iff.1 h3).1
      have := hseg _ h4
      simp only [Nat.zero_add] at this ⊢
      rw [this]
      simpa [h4] using h3
end
end Go.J
end
section
set_option linter.unusedVariables false
set_option linter.unusedSimpArgs false
namespace Go.J
/-- A step that takes something over for good. -/
theorem JLf1 {X : Cx} {ops : Array Oper} {L : List (Nat × Pr)} {K : Act → World → Prop} {O : List Ent} {rest : List Oper} {d : Nat} {op : Op} {ty : TypeId} {pos : String} {aft : Array Edge} {g : Option (Nat × Bool)} {e0 : Ent} {φ : Unit → Pr} (h : Te X.P ⟨some d, op, ty, pos, aft, g⟩ L [e0] φ (fun _ : Unit => [])) (hd : Nat.blt d X.N = true) (hg : Gd ops L g) (k : JL X ops rest K ((d, φ ()) :: L) O) : JL X ops (⟨some d, op, ty, pos, aft, g⟩ :: rest) K L (e0 :: O) :=
  JLe (κ := [e0]) (O := O) h hd hg (fun _ => k)
/-! ### A body with labels -/
section
variable {X : Cx} {L : List (Nat × Pr)} {O : List Ent} {Q : Exit → Act → World → Prop}
theorem J_scope {c : Code} (hr : X.r = none) (h : J X c (Exit.noGoto Q) L O) : J X (.scope c) Q L O := fun a w h1 => by
  have h2 := h a w h1
  rw [hr] at h2 ⊢
  exact (wpIn_wide (n := 0)).2 (wp_scope_straight ((wpIn_wide (n := 0)).1 h2))
theorem KJ_ret_sc (h : KJ X (Q .ret) L O) : KJ X (Exit.noGoto Q .ret) L O := h
end
/-! ### A row that a variable holds is never written again: temporaries that hold it are told too -/
section
variable {δ α α' : Type} {π : Rep δ} {ρ : Rep α} {ρ' : Rep α'} {X : Cx} {L : List (Nat × Pr)} {O : List Ent} {Q : Exit → Act → World → Prop} {K : Act → World → Prop} {c : Code} {ops : Array Oper} {lo : List Oper} {E n b : Nat} {v : α} {s : Value} {l : List δ}
theorem Now.closeT {v' : α'} {t : Nat} {a : Act} {w : World} (hc : ∀ I, (π.sl n).rd I s l → Clp ρ ρ' I v v') (ht : lk L t = some (Rep.slv.at s)) (h : Now X L (Ent.row s E n π l :: Ent.box b ρ v :: O) a w) : Now X ((t, (π.sl n).at l) :: L) (Ent.box b ρ' v' :: O) a w := by
  obtain ⟨I, h0, h1, h2⟩ := h
  obtain ⟨I', hI, hs, hr⟩ := h2.freezeRow
  refine ⟨I', h0.trans hI, (h1.mono hI).alias ht hr, ⟨hs.imm, hs.env, fun e he => ?_, by have := hs.dis; simpa [List.flatMap_cons, Ent.box] using this⟩⟩
  rcases List.mem_cons.1 he with rfl | he
  · obtain ⟨u, e, q1, q2, q3, q4⟩ := hs.own (Ent.box b ρ v) (List.mem_cons_self ..)
    exact ⟨u, e, q1, hc I' hr u q2, q3, q4⟩
  · exact hs.own e (List.mem_cons_of_mem _ he)
theorem JL_closeT (t : Nat) (v' : α') (hc : ∀ I, (π.sl n).rd I s l → Clp ρ ρ' I v v') (ht : lk L t = some (Rep.slv.at s)) (k : JL X ops lo K ((t, (π.sl n).at l) :: L) (Ent.box b ρ' v' :: O)) : JL X ops lo K L (Ent.row s E n π l :: Ent.box b ρ v :: O) := fun a w Q hQ h => k a w Q hQ (h.closeT hc ht)
end
/-- What a call of a function value comes to. -/
def PfC (P : Program) (v : Value) (φs : List Pr) (ψ : Pr) (I0 : Imm) : Prop :=
  ∃ f bs, v = .func (.func f) #[] bs ∧ FnIs P f ∧ ∀ (vs : List Value) (w : World) (I : Imm) (R : List Ent), I0.le I → Are I vs φs → St I R w →
    CallsIn (wide none) 0 P f (vs.toArray ++ bs) w (fun e w' => ∃ v I', e = .returned v ∧ I.le I' ∧ ψ.p I' v ∧ St I' R w')
theorem PfC.mono {P : Program} {v : Value} {φs : List Pr} {ψ : Pr} {I0 I1 : Imm} (h : I0.le I1) (k : PfC P v φs ψ I0) : PfC P v φs ψ I1 :=
  let ⟨f, bs, a, b, c⟩ := k; ⟨f, bs, a, b, fun vs w I R h1 h2 h3 => c vs w I R (h.trans h1) h2 h3⟩
theorem PfC.ofCt {P : Program} {f : FuncId} {φs : List Pr} {φ : Unit → Pr} {I0 : Imm} (hf : FnIs P f) (h : Ct P f φs [] φ (fun _ => [])) : PfC P (.func (.func f) #[] #[]) φs (φ ()) I0 :=
  ⟨f, #[], rfl, hf, fun vs w I R h1 h2 h3 => by
    have := h vs w I R h2 h3
    simp only [Array.append_empty]
    exact this.mono fun e w' ⟨_, v, I', a, b, c, d⟩ => ⟨v, I', a, b, c, d⟩⟩
section
variable {α β γ : Type}
def Rep.fn2 (P : Program) (ρ : Rep α) (σ : Rep β) (π : Rep γ) : Rep (α → β → Option γ) := ⟨fun I v g => (∃ f bs, v = .func (.func f) #[] bs) ∧ ∀ a b r, g a b = some r → PfC P v [ρ.at a, σ.at b] (π.at r) I, fun h k => ⟨k.1, fun a b r e => (k.2 a b r e).mono h⟩⟩
variable {P : Program} {ρ : Rep α} {σ : Rep β} {π : Rep γ}
variable {L : List (Nat × Pr)} {d : Option Nat} {ty : TypeId} {pos : String} {aft : Array Edge} {gd : Option (Nat × Bool)} {x y : Operand}
theorem T_pfc {xs : List Operand} {ts : Array TypeId} {φs : List Pr} {ψ χ : Pr} (hv : lkO L x = some χ) (hp : ∀ I v, χ.p I v → PfC P v φs ψ I) (ha : ArgL L xs φs) :
    Te P ⟨d, .call { callee := .value x, args := xs.toArray, argTypes := ts }, ty, pos, aft, gd⟩ L [] (fun _ : Unit => ψ) (fun _ => []) :=
  fun r N D a w I R next Q h1 h2 k => by
    obtain ⟨f, bs, ev, hf, hc⟩ := hp I _ (lkO_ok h1 hv)
    refine wpIn_of_call (f := f) (args := (xs.map a.eval).toArray ++ bs) (w' := w) (nofun) ?_ ?_
    · simp only [execOp, resolve, ev, Deferred.ofValue, Sem.run_bind, Sem.run_pure, Result.andThen, invoke]
      simp [hf.run]
    · exact (hc _ w I R (Imm.le.refl I) (ArgL.ok h1 ha) h2).mono fun e w' ⟨v, I', e1, e2, e3, e4⟩ => ⟨v, e1, k () v I' w' e2 e3 e4⟩
theorem T_fn2 {g : α → β → Option γ} {a : α} {b : β} {r : γ} {ts : Array TypeId} (hv : lkO L x = some ((Rep.fn2 P ρ σ π).at g)) (hg : g a b = some r) {xs : List Operand} (ha : ArgL L xs [ρ.at a, σ.at b]) :
    Te P ⟨d, .call { callee := .value x, args := xs.toArray, argTypes := ts }, ty, pos, aft, gd⟩ L [] (fun _ : Unit => π.at r) (fun _ => []) :=
  T_pfc hv (fun I v h => h.2 a b r hg) ha
theorem Arg.fn2 {f : FuncId} {g : α → β → Option γ} {L : List (Nat × Pr)} {x : Operand} (hx : lkO L x = some (Rep.val.at (.func (.func f) #[] #[]))) (hf : FnIs P f) (h : ∀ a b r, g a b = some r → Ct P f [ρ.at a, σ.at b] [] (fun _ : Unit => π.at r) (fun _ => [])) : Arg L x ((Rep.fn2 P ρ σ π).at g) :=
  ⟨_, hx, fun I v hv => ⟨⟨_, _, hv⟩, fun a b r e => by
    have hv : v = .func (.func f) #[] #[] := hv
    subst hv
    exact PfC.ofCt hf (h a b r e)⟩⟩
theorem Lay.fn2 : (Rep.fn2 P ρ σ π).Lay 1 false := fun I v g ⟨⟨f, bs, e⟩, _⟩ => by subst e; simp [Value.oneCell']
end
end Go.J
end
section
set_option linter.unusedVariables false
set_option linter.unusedSimpArgs false
namespace Go.J
section
variable {α β σ τ ρ : Type}
theorem Fl.then_go {s : σ} {k : σ → Option ρ} : (Fl.go s : Fl σ ρ).then k = k s := rfl
theorem lim_bigK : lim < bigK := by decide
/-- A while loop along a way that is known. -/
theorem while_way {body : σ → Option (Rd σ ρ)} (st : Nat → σ) : ∀ (n K : Nat), n < K → (∀ i, i < n → body (st i) = some (.next (st (i + 1)))) → whileF body K (st 0) = whileF body (K - n) (st n)
  | 0, K, _, _ => by simp
  | n + 1, K, hk, hs => by
    have h1 := while_way (body := body) st n K (by omega) (fun i hi => hs i (by omega))
    rw [h1]
    obtain ⟨k, hk'⟩ : ∃ k, K - n = k + 1 := ⟨K - n - 1, by omega⟩
    rw [hk', show K - (n + 1) = k by omega, whileF, hs n (by omega)]
theorem while_go {body : σ → Option (Rd σ ρ)} (st : Nat → σ) (n : Nat) {K : Nat} (hk : n < K) (hs : ∀ i, i < n → body (st i) = some (.next (st (i + 1)))) {s' : σ} (he : body (st n) = some (.done s')) : whileF body K (st 0) = some (.go s') := by
  rw [while_way st n K hk hs]
  obtain ⟨k, hk'⟩ : ∃ k, K - n = k + 1 := ⟨K - n - 1, by omega⟩
  rw [hk', whileF, he]
def Rd.lift (mk : σ → Int → τ) (i : Int) : Rd σ ρ → Rd τ ρ
  | .next s => .next (mk s (i + 1))
  | .done s => .done (mk s i)
  | .ret r => .ret r
def Fl.lift (f : σ → τ) : Fl σ ρ → Fl τ ρ
  | .go s => .go (f s)
  | .ret r => .ret r
theorem idx_app (pre : List α) (x : α) (suf : List α) : idx (pre ++ x :: suf) (pre.length : Int) = some x := by simp [idx]
theorem idx_nat (l : List α) (i : Nat) : idx l (i : Int) = l[i]? := by simp [idx]
theorem idx_get {l : List α} {i : Nat} (h : i < l.length) : idx l (i : Int) = some l[i] := by simp [idx, h]
theorem idx_zero (x : α) (l : List α) : idx (x :: l) 0 = some x := by simp [idx]
/-- A while loop by an index over a list. -/
theorem while_range_from {body : τ → Option (Rd τ ρ)} {b : Int → α → σ → Option (Rd σ ρ)} {mk : σ → Int → τ} {l : List α}
    (hb : ∀ pre x suf s, l = pre ++ x :: suf → body (mk s pre.length) = (b pre.length x s).map (Rd.lift mk pre.length)) (nd : ∀ i x s s', b i x s ≠ some (.done s')) (he : ∀ s, body (mk s l.length) = some (.done (mk s l.length))) :
    ∀ (suf pre : List α) (s : σ) (K : Nat), l = pre ++ suf → suf.length < K → whileF body K (mk s pre.length) = (rangeF b suf pre.length s).map (Fl.lift fun s => mk s l.length)
  | [], pre, s, K, hl, hK => by
    obtain ⟨k, rfl⟩ : ∃ k, K = k + 1 := ⟨K - 1, by omega⟩
    have : pre.length = l.length := by rw [hl]; simp
    rw [this, whileF, he]; rfl
  | x :: suf, pre, s, K, hl, hK => by
    obtain ⟨k, rfl⟩ : ∃ k, K = k + 1 := ⟨K - 1, by omega⟩
    rw [whileF, hb pre x suf s hl, rangeF]
    cases hx : b pre.length x s with
    | none => rfl
    | some st =>
      cases st with
      | next s' =>
        have ih := while_range_from hb nd he suf (pre ++ [x]) s' k (by simp [hl]) (by simp at hK; omega)
        have e : ((pre ++ [x]).length : Int) = pre.length + 1 := by simp
        rw [e] at ih
        exact ih
      | done s' => exact absurd hx (nd _ _ _ _)
      | ret r => rfl
theorem while_range {body : τ → Option (Rd τ ρ)} {b : Int → α → σ → Option (Rd σ ρ)} (mk : σ → Int → τ) {l : List α} (hl : l.length ≤ lim)
    (hb : ∀ pre x suf s, l = pre ++ x :: suf → body (mk s pre.length) = (b pre.length x s).map (Rd.lift mk pre.length)) (nd : ∀ i x s s', b i x s ≠ some (.done s')) (he : ∀ s, body (mk s l.length) = some (.done (mk s l.length))) (s : σ) :
    whileF body bigK (mk s 0) = (rangeF b l 0 s).map (Fl.lift fun s => mk s l.length) :=
  while_range_from hb nd he l [] s bigK rfl (Nat.lt_of_le_of_lt hl lim_bigK)
/-- A range whose state is told of what it has passed. -/
theorem rangeF_pre {b : Int → α → σ → Option (Rd σ ρ)} (f : List α → σ) {l : List α} (h : ∀ pre x suf, l = pre ++ x :: suf → b pre.length x (f pre) = some (.next (f (pre ++ [x])))) :
    ∀ (suf pre : List α), l = pre ++ suf → rangeF b suf pre.length (f pre) = some (.go (f l))
  | [], pre, hl => by rw [rangeF, hl]; simp
  | x :: suf, pre, hl => by
    rw [rangeF, h pre x suf hl]
    have e : ((pre ++ [x]).length : Int) = pre.length + 1 := by simp
    have := rangeF_pre f h suf (pre ++ [x]) (by simp [hl])
    rw [e] at this
    exact this
theorem rangeF_inv {b : Int → α → σ → Option (Rd σ ρ)} (f : List α → σ) {l : List α} (h : ∀ pre x suf, l = pre ++ x :: suf → b pre.length x (f pre) = some (.next (f (pre ++ [x])))) : rangeF b l 0 (f []) = some (.go (f l)) :=
  rangeF_pre f h l [] rfl
theorem eachN_pre {b : α → σ → Option (Rd σ Empty)} (f : List α → σ) {l : List α} (h : ∀ pre x suf, l = pre ++ x :: suf → b x (f pre) = some (.next (f (pre ++ [x])))) :
    ∀ (suf pre : List α), l = pre ++ suf → eachN b suf (f pre) = some (f l)
  | [], pre, hl => by rw [eachN, hl]; simp
  | x :: suf, pre, hl => by
    rw [eachN, h pre x suf hl]
    exact eachN_pre f h suf (pre ++ [x]) (by simp [hl])
theorem eachN_inv {b : α → σ → Option (Rd σ Empty)} (f : List α → σ) {l : List α} (h : ∀ pre x suf, l = pre ++ x :: suf → b x (f pre) = some (.next (f (pre ++ [x])))) : eachN b l (f []) = some (f l) :=
  eachN_pre f h l [] rfl
theorem countF_pre {b : Int → σ → Option (Rd σ ρ)} (f : Nat → σ) {n : Nat} (h : ∀ k, k < n → b k (f k) = some (.next (f (k + 1)))) :
    ∀ (m k : Nat), k + m = n → countF b m k (f k) = some (.go (f n))
  | 0, k, hk => by rw [countF]; simp at hk; rw [hk]
  | m + 1, k, hk => by
    rw [countF, h k (by omega)]
    exact countF_pre f h m (k + 1) (by omega)
theorem countF_inv {b : Int → σ → Option (Rd σ ρ)} (f : Nat → σ) {n : Nat} (h : ∀ k, k < n → b k (f k) = some (.next (f (k + 1)))) : countF b n 0 (f 0) = some (.go (f n)) := countF_pre f h n 0 (by omega)
theorem rangeW_pre {b : Int → α → σ → Option (List β × Rd σ ρ)} (f : List α → σ) (g : List α → α → List β) {l : List α} (h : ∀ pre x suf, l = pre ++ x :: suf → b pre.length x (f pre) = some (g pre x, .next (f (pre ++ [x])))) (ys : List α → List β) (hy : ∀ pre x suf, l = pre ++ x :: suf → ys (pre ++ [x]) = ys pre ++ g pre x) :
    ∀ (suf pre : List α), l = pre ++ suf → ∃ zs, rangeW b suf pre.length (f pre) = some (zs, .go (f l)) ∧ ys l = ys pre ++ zs
  | [], pre, hl => ⟨[], by rw [rangeW, hl]; simp, by rw [hl]; simp⟩
  | x :: suf, pre, hl => by
    obtain ⟨zs, h1, h2⟩ := rangeW_pre f g h ys hy suf (pre ++ [x]) (by simp [hl])
    refine ⟨g pre x ++ zs, ?_, by rw [h2, hy pre x suf hl, List.append_assoc]⟩
    rw [rangeW, h pre x suf hl]
    have e : ((pre ++ [x]).length : Int) = pre.length + 1 := by simp
    rw [e] at h1
    simp [stepW, h1]
theorem rangeW_inv {b : Int → α → σ → Option (List β × Rd σ ρ)} (f : List α → σ) (g : List α → α → List β) {l : List α} (h : ∀ pre x suf, l = pre ++ x :: suf → b pre.length x (f pre) = some (g pre x, .next (f (pre ++ [x])))) (ys : List α → List β) (h0 : ys [] = []) (hy : ∀ pre x suf, l = pre ++ x :: suf → ys (pre ++ [x]) = ys pre ++ g pre x) :
    rangeW b l 0 (f []) = some (ys l, .go (f l)) := by
  obtain ⟨zs, h1, h2⟩ := rangeW_pre f g h ys hy l [] rfl
  rw [h0] at h2
  simp at h2
  rw [h2]; exact h1
theorem countW_inv {b : Int → σ → Option (List β × Rd σ ρ)} (f : Nat → σ) (g : Nat → List β) {n : Nat} (h : ∀ k, k < n → b k (f k) = some (g k, .next (f (k + 1)))) : ∀ (m k : Nat), k + m = n → countW b m k (f k) = some ((List.range' k m).flatMap g, .go (f n))
  | 0, k, hk => by rw [countW]; simp at hk; simp [hk]
  | m + 1, k, hk => by
    have ih := countW_inv f g h m (k + 1) (by omega)
    rw [countW, h k (by omega)]
    have e : ((k + 1 : Nat) : Int) = (k : Int) + 1 := by simp
    rw [e] at ih
    simp [stepW, ih, List.range'_succ]
/-- Are two lists the same? -/
theorem equal_count {a b : List α} (q : α → α → Bool) (hq : ∀ x y, q x y = true ↔ x = y) (hlen : a.length = b.length) :
    ∀ (n k : Nat), k + n = a.length → (a.take k = b.take k) → ∃ o, countF (σ := Unit) (ρ := Bool) (fun i _ => (idx a i).bind fun x => (idx b i).bind fun y => if (!(q x y)) = true then some (Rd.ret false) else some (Rd.next ())) n k () = some o ∧ (o = .go () ∧ a = b ∨ o = .ret false ∧ a ≠ b)
  | 0, k, hk, ht => ⟨.go (), by rw [countF], .inl ⟨rfl, by
      rw [List.take_of_length_le (by omega), List.take_of_length_le (by omega)] at ht; exact ht⟩⟩
  | n + 1, k, hk, ht => by
    have h1 : k < a.length := by omega
    have h2 : k < b.length := by omega
    rw [countF]
    simp only [idx_get h1, idx_get h2, Option.bind_some]
    cases hx : q a[k] b[k] with
    | true =>
      have e := (hq _ _).1 hx
      have := equal_count q hq hlen n (k + 1) (by omega) (by rw [List.take_add_one, List.take_add_one, ht]; simp [h1, h2, e])
      simpa using this
    | false =>
      refine ⟨.ret false, by simp, .inr ⟨rfl, fun e => ?_⟩⟩
      subst e
      have := (hq a[k] a[k]).2 rfl
      rw [this] at hx; cases hx
theorem equal_model {a b : List α} (q : α → α → Bool) (hq : ∀ x y, q x y = true ↔ x = y) (hl : a.length ≤ lim) :
    ∃ r : Bool, (if (!decide ((a.length : Int) = (b.length : Int))) = true then some false else (capN (a.length : Int) (countF (σ := Unit) (ρ := Bool) (fun i9 s2 => (idx a i9).bind fun x13 => (idx b i9).bind fun x14 => if (!(q x13 x14)) = true then some (Rd.ret false) else some (Rd.next ())) (((a.length : Int) : Int) - 0).toNat 0 ())).bind fun o4 => o4.then fun s2 => some true) = some r ∧ (r = true ↔ a = b) := by
  by_cases hlen : a.length = b.length
  · obtain ⟨o, h1, h2⟩ := equal_count q hq hlen a.length 0 (by omega) (by simp)
    have hc : (a.length : Int) ≤ 9223372036854775807 := by simp [lim] at hl; omega
    simp only [hlen, decide_true, Bool.not_true, Bool.false_eq_true, if_false, Int.sub_zero, Int.toNat_natCast]
    rw [← hlen]
    have h1 : countF (σ := Unit) (ρ := Bool) (fun i9 s2 => (idx a i9).bind fun x13 => (idx b i9).bind fun x14 => if (!(q x13 x14)) = true then some (Rd.ret false) else some (Rd.next ())) a.length 0 () = some o := h1
    rw [h1]
    simp only [capN, hc, if_true, Option.bind_some]
    rcases h2 with ⟨rfl, h⟩ | ⟨rfl, h⟩
    · exact ⟨true, rfl, by simp [h]⟩
    · exact ⟨false, rfl, by simp [h]⟩
  · refine ⟨false, ?_, by simp; intro e; exact hlen (by rw [e])⟩
    have : ¬ ((a.length : Int) = (b.length : Int)) := by omega
    simp [this]
theorem equal_range {a b : List α} (q : α → α → Bool) (hq : ∀ x y, q x y = true ↔ x = y) (r0 : ρ) (hlen : a.length = b.length) : ∀ (suf pre : List α), a = pre ++ suf → pre = b.take pre.length → ∃ o, rangeF (σ := Unit) (ρ := ρ) (fun i x _ => (idx b i).bind fun y => if (!(q x y)) = true then some (Rd.ret r0) else some (Rd.next ())) suf pre.length () = some o ∧ (o = .go () ∧ a = b ∨ o = .ret r0 ∧ a ≠ b) := by
  intro suf
  induction suf with
  | nil =>
    intro pre hp ht
    refine ⟨.go (), by rw [rangeF], .inl ⟨rfl, ?_⟩⟩
    simp at hp
    rw [hp, ht, ← hp, hlen]; simp
  | cons x suf ih =>
    intro pre hp ht
    have h1 : pre.length < b.length := by rw [← hlen, hp]; simp
    rw [rangeF]
    simp only [idx_get h1, Option.bind_some]
    cases hx : q x b[pre.length] with
    | true =>
      have e := (hq _ _).1 hx
      have := ih (pre ++ [x]) (by simp [hp]) (by
        rw [List.length_append, List.length_singleton, List.take_add_one, ← ht]; simp [h1, e])
      have e2 : ((pre ++ [x]).length : Int) = pre.length + 1 := by simp
      rw [e2] at this
      simpa using this
    | false =>
      refine ⟨.ret r0, by simp, .inr ⟨rfl, fun e => ?_⟩⟩
      subst e
      have := (hq x x).2 rfl
      simp [hp] at hx
      rw [this] at hx; cases hx
/-- .. by a while loop. -/
theorem equal_while {a b : List α} (q : α → α → Bool) (hq : ∀ x y, q x y = true ↔ x = y) (hl : a.length ≤ lim) :
    ∃ r : Bool, (if (!decide ((a.length : Int) = (b.length : Int))) = true then some false else (whileF (σ := Int) (ρ := Bool) (fun s2 => if (decide (s2 < (a.length : Int))) = true then (idx a s2).bind fun x10 => (idx b s2).bind fun x11 => if (!(q x10 x11)) = true then some (Rd.ret false) else some (Rd.next (IntKind.i64.wrap (s2 + 1))) else some (Rd.done s2)) bigK 0).bind fun o4 => o4.then fun s2 => some true) = some r ∧ (r = true ↔ a = b) := by
  by_cases hlen : a.length = b.length
  · have hl' : a.length ≤ 140737488355328 := hl
    have key := while_range (body := fun s2 => if (decide (s2 < (a.length : Int))) = true then (idx a s2).bind fun x10 => (idx b s2).bind fun x11 => if (!(q x10 x11)) = true then some (Rd.ret false) else some (Rd.next (IntKind.i64.wrap (s2 + 1))) else some (Rd.done s2))
      (b := fun i x _ => (idx b i).bind fun y => if (!(q x y)) = true then some (Rd.ret false) else some (Rd.next ())) (fun _ i => i) hl (fun pre x suf s hp => by
        subst hp
        simp only [idx_app, Option.bind_some, List.length_append, List.length_cons] at hl' ⊢
        have h2 : pre.length < b.length := by rw [← hlen]; simp
        rw [if_pos (by simp; omega), idx_get h2]
        simp only [Option.bind_some]
        cases q x b[pre.length] <;> simp [Rd.lift, w64 (n := (pre.length : Int) + 1) (by omega) (by omega)]) (fun i x s s' => by
        cases idx b i with
        | none => simp
        | some y => simp; split <;> simp) (fun s => by simp) ()
    obtain ⟨o, h1, h2⟩ := equal_range (ρ := Bool) q hq false hlen a [] rfl (by simp)
    simp only [hlen, decide_true, Bool.not_true, Bool.false_eq_true, if_false]
    rw [← hlen]
    have h1 : rangeF (σ := Unit) (ρ := Bool) (fun i x _ => (idx b i).bind fun y => if (!(q x y)) = true then some (Rd.ret false) else some (Rd.next ())) a 0 () = some o := h1
    rw [h1] at key
    rw [key]
    rcases h2 with ⟨rfl, h⟩ | ⟨rfl, h⟩
    · exact ⟨true, rfl, by simp [h]⟩
    · exact ⟨false, rfl, by simp [h]⟩
  · refine ⟨false, ?_, by simp; intro e; exact hlen (by rw [e])⟩
    have : ¬ ((a.length : Int) = (b.length : Int)) := by omega
    simp [this]
theorem app_ok {bytes : Nat} {l m : List α} (h : (l.length + m.length) * bytes ≤ lim) (h2 : l.length + m.length ≤ lim) : app bytes l m = some (l ++ m) := by simp [app, h, h2]
theorem slc_ok {l : List α} {lo hi : Nat} (h : lo ≤ hi) (h2 : hi ≤ l.length) : slc l (lo : Int) (hi : Int) = some ((l.drop lo).take (hi - lo)) := by
  unfold slc
  rw [if_pos (by omega)]
  simp
end
end Go.J
end
section
set_option linter.unusedVariables false
set_option linter.unusedSimpArgs false
namespace Go.J
open Go.Proofs Go.Sort Go.Shelf
/-- What the sort leaves. -/
def sortE {α : Type} [Inhabited α] (cf : α → α → Int) (l : List α) : List α := (pdq (ltOf cf) l.toArray 0 l.length (Lib.bitLen l.length) true true).toList
section
variable {α : Type} [Inhabited α] {cf : α → α → Int}
theorem sortE_perm (hO : SWO (ltOf cf)) (l : List α) : (sortE cf l).Perm l := by
  have h := (pdq_sorts (ltOf cf) hO l.toArray 0 l.length (Lib.bitLen l.length) true true (Nat.zero_le _) (by simp) (Or.inl rfl)).1
  obtain ⟨h1, _, h2⟩ := h
  have e1 : l.toArray.extract 0 l.length = l.toArray := by rw [show l.length = l.toArray.size by simp]; exact Array.extract_size
  generalize hq : pdq (ltOf cf) l.toArray 0 l.length (Lib.bitLen l.length) true true = q at h1 h2
  have e2 : q.extract 0 l.length = q := by
    rw [show l.length = q.size by rw [h1]; simp]; exact Array.extract_size
  rw [e1, e2] at h2
  unfold sortE
  rw [hq]
  simpa using h2
theorem sortE_length (hO : SWO (ltOf cf)) (l : List α) : (sortE cf l).length = l.length := (sortE_perm hO l).length_eq
theorem sortE_sorted (hO : SWO (ltOf cf)) (l : List α) : (sortE cf l).Pairwise fun a b => ltOf cf b a = false := by
  have h := pdq_sorts (ltOf cf) hO l.toArray 0 l.length (Lib.bitLen l.length) true true (Nat.zero_le _) (by simp) (Or.inl rfl)
  rw [List.pairwise_iff_getElem]
  intro i j hi hj hij
  have hlen := sortE_length hO l
  have h2 := h.2 i j (Nat.zero_le _) hij (by omega)
  unfold sortE at hi hj ⊢
  generalize pdq (ltOf cf) l.toArray 0 l.length (Lib.bitLen l.length) true true = q at hi hj h2 ⊢
  have hi' : i < q.size := by simpa using hi
  have hj' : j < q.size := by simpa using hj
  rw [getElem!_pos q i hi', getElem!_pos q j hj'] at h2
  simpa using h2
end
section
variable {P : Program} {ρr : Ren} {α : Type} [Inhabited α]
theorem flatK_at {enc : α → List Value} {k : Nat} (hk : ∀ x, (enc x).length = k) (d : Array α) {i j : Nat} (hi : i < d.size) (hj : j < k) : (flatK enc k d)[i * k + j]! = (enc d[i]!)[j]! := by
  have hlt : i * k + j < d.size * k := by
    have : (i + 1) * k ≤ d.size * k := Nat.mul_le_mul_right _ hi
    rw [Nat.succ_mul] at this; omega
  have hk0 : 0 < k := by omega
  rw [get_flatK _ _ _ _ hlt]
  have e1 : (i * k + j) / k = i := by
    rw [Nat.mul_comm, Nat.mul_add_div hk0, Nat.div_eq_of_lt hj, Nat.add_zero]
  have e2 : (i * k + j) % k = j := by rw [Nat.mul_comm, Nat.mul_add_mod, Nat.mod_eq_of_lt hj]
  rw [e1, e2]
theorem Ct.sort (L : SlLaysF0.n6 P ρr) {ρ : Rep α} {E k : Nat} {g : FuncId} {s : Value} {l : List α} (hn : 0 < k) (aE : ∀ w, (Go.isAgg (ρr.t 24)).run P w = .ok true w) (zE : ∀ w, (Go.sizeOf (ρr.t 24)).run P w = .ok k w) (enc : α → List Value)
    (hk : ∀ x, (enc x).length = k) (h1 : ∀ x, ∀ v ∈ enc x, v.oneCell' = true) (hrd : ∀ I x, ρ.rd I (.agg (enc x).toArray) x) (hdr : ∀ I v x, ρ.rd I v x → v = .agg (enc x).toArray) (cf : α → α → Int) (hO : SWO (ltOf cf)) (eg : ∀ args w, (callFunc g args).run P w = .ok (.enter g args) w)
    (hcmp : ∀ (x y : α) (w : World), Calls P g #[.agg (enc x).toArray, .agg (enc y).toArray] w fun e w' => e = .returned (.int .i64 (cf x y)) ∧ ∃ q os, w' = grow (w.drewN q) os) :
    Ct P (ρr.f 6) [Rep.slv.at s, Rep.val.at (.func (.func g) #[] #[])] [Ent.row s E k ρ l] (fun _ : Unit => Pr.tup []) (fun _ => [Ent.row s E k ρ (sortE cf l)]) := by
  intro vs w I R ha hs
  match vs, ha with
  | [v1, v2], ha =>
    obtain ⟨⟨rfl, A0, n0, c0, e0⟩, h2, _⟩ := ha
    have h2 : v2 = .func (.func g) #[] #[] := h2
    subst h2
    refine (callsIn_wide (n := 0)).2 ?_
    obtain ⟨hlim, hr⟩ := hs.own (Ent.row v1 E k ρ l) (List.mem_cons_self ..)
    rcases hr with ⟨rfl, rfl⟩ | ⟨b, cap, cur, rfl, hg, hc1, hc2, hc3, hnn, hel⟩
    · refine (AnyF.slices_SortFunc_none L none 0 _ w).mono fun e w' ⟨he, hw⟩ => ⟨(), .tuple #[], I, he, Imm.le.refl I, ⟨[], rfl, trivial⟩, ?_⟩
      subst hw
      have e0 : sortE cf ([] : List α) = [] := List.eq_nil_of_length_eq_zero (by rw [sortE_length hO]; rfl)
      show St I ([Ent.row (Value.slice none 0 0) E k ρ (sortE cf [])] ++ R) w'
      rw [e0]
      exact hs
    · have hg : w.heap[b]? = some (.cells cur E (0, 0)) := hg
      have hb : b < w.heap.size := (Array.getElem?_eq_some_iff.1 hg).1
      have hin : l.length * k ≤ cur.size := by rw [hc3]; exact Nat.mul_le_mul_right _ hc1
      have hcell : ∀ i (hi : i < l.length) j, j < k → cur[i * k + j]? = some ((enc l[i])[j]!) := fun i hi j hj => by
        obtain ⟨u, u1, u2, u3, u4⟩ := hel i hi
        have := hdr I u _ u1
        subst this
        have h5 := u4 j (by simp [Value.cells, hk, hj])
        rw [h5]
        simp [Value.cells, hk, hj]
      have hH : HoldsK enc k w b 0 l.toArray := by
        intro t ht
        have ht : t < l.length * k := by simpa using ht
        have hi : t / k < l.length := Nat.div_lt_of_lt_mul (by rw [Nat.mul_comm]; exact ht)
        have hj : t % k < k := Nat.mod_lt _ hn
        have e : t / k * k + t % k = t := Nat.div_add_mod' t k
        have h5 := hcell _ hi _ hj
        rw [e] at h5
        have h6 := flatK_at hk l.toArray (i := t / k) (j := t % k) (by simpa using hi) hj
        rw [e] at h6
        refine ⟨?_, by simp [World.frozen?, hg]⟩
        simp only [World.cell?, hg, Nat.zero_add]
        rw [h6]
        simp only [Option.isSome_none, Bool.false_eq_true, if_false, h5, id]
        simp [hi]
      have hsz : l.toArray.size < 4611686018427387904 := by simp [lim] at hlim ⊢; omega
      have hc := AnyQ.slices_SortFunc_eq L k aE zE enc hk h1 cf hO g #[] b 0 cap l.toArray w eg (fun m os dk _ x y => by simpa using hcmp x y _) hH hb hsz
      simp only [List.size_toArray] at hc
      refine hc.mono fun e w' ⟨he, m, os, hw⟩ => ⟨(), .tuple #[], I, he, Imm.le.refl I, ⟨[], rfl, trivial⟩, ?_⟩
      have hlen := sortE_length hO l
      generalize hq : pdq (ltOf cf) l.toArray 0 l.length (Lib.bitLen l.length) true true = q at hw
      have hqs : q.toList = sortE cf l := by rw [← hq]; rfl
      have hqz : q.size = l.length := by rw [← hlen, ← hqs]; simp
      have hother : ∀ b', b' ≠ b → b' < w.heap.size → w'.heap[b']? = w.heap[b']? := fun b' hne hlt => by
        rw [hw]
        simp only [sortWorldK, grow, putRowK, putRow, mapBlock]
        rw [Array.getElem?_append_left (by simpa [ahead] using hlt), Array.getElem?_modify, if_neg (Ne.symm hne)]
        rfl
      have hself : w'.heap[b]? = some (.cells (putCells id 0 (flatK enc k q) cur) E (0, 0)) := by
        rw [hw]
        simp only [sortWorldK, grow, putRowK, putRow, mapBlock]
        rw [Array.getElem?_append_left (by simpa [ahead] using hb), Array.getElem?_modify, if_pos rfl]
        show Option.map _ w.heap[b]? = _
        rw [hg]; rfl
      have hnb : ∀ e ∈ R, b ∉ e.blk := fun e he hb' => hs.row_other he (by simp [Ent.row, Value.ownBlock]) hb'
      refine ⟨fun b' o v hI => ?_, ?_, fun e he => ?_, ?_⟩
      · have hlt := hs.imm_lt hI
        have hne : b' ≠ b := fun e => by subst e; rw [hnn] at hI; cases hI
        rw [World.cell?_of_block (a := ⟨b', o, none⟩) (hother b' hne hlt)]
        exact hs.imm b' o v hI
      · have h3 := hs.env
        rw [hw]
        exact h3
      · rcases List.mem_cons.1 he with rfl | he
        · refine ⟨by rw [hlen]; exact hlim, .inr ⟨b, cap, _, by rw [hlen], hself, by rw [hlen]; exact hc1, hc2, by simp [putCells, hc3], hnn, fun i hi => ?_⟩⟩
          have hi' : i < l.length := by rw [hlen] at hi; exact hi
          have eqi : (sortE cf l)[i] = q[i]! := by
            rw [getElem!_pos q i (by omega)]
            simp [← hqs]
          refine ⟨.agg (enc (sortE cf l)[i]).toArray, hrd _ _, by simp [Value.cells, hk], fun c hc => h1 _ c (by simpa [Value.cells] using hc), fun j hj => ?_⟩
          have hj' : j < k := by simpa [Value.cells, hk] using hj
          have hlt : i * k + j < l.length * k := by
            have : (i + 1) * k ≤ l.length * k := Nat.mul_le_mul_right _ hi'
            rw [Nat.succ_mul] at this; omega
          have hlt2 : i * k + j < cur.size := by omega
          simp only [putCells, Array.getElem?_mapIdx, Array.getElem?_eq_getElem hlt2, Option.map_some, Nat.zero_le, true_and, Nat.zero_add, size_flatK, hqz, hlt, if_true, Nat.sub_zero, id]
          rw [flatK_at hk q (by omega) hj', ← eqi]
          simp [Value.cells, hk, hj']
        · exact e.ext (Imm.le.refl I) (fun _ _ => rfl) (fun b' hb' => hother b' (fun e' => hnb e he (e' ▸ hb')) (hs.lt (List.mem_cons_of_mem _ he) hb')) (hs.own e (List.mem_cons_of_mem _ he))
      · exact hs.dis
end
end Go.J
end
section
set_option maxHeartbeats 4000000
set_option linter.unusedVariables false
set_option linter.unusedSimpArgs false
namespace Go.Proofs.Ytogflgcngfghpaa
open Go.J
structure api_Tree where
  mk ::
  Size : Int
  Leaf : Int
  Levels : List (List Int)
structure api_Message where
  mk ::
  Kind : Int
  From : Int
  To : Int
  Number : Int
  Value : Int
  Epoch : Int
  Values : List Int
  Body : List Int
structure api_Extent where
  mk ::
  Start : Int
  Count : Int
structure api_Walk where
  mk ::
  Tree : api_Tree
  Pending : List api_Extent
  Level : Int
  Found : List api_Extent
  Sent : Int
  Done : Bool
structure compare_walk where
  mk ::
  Walk : api_Walk
structure extent_end where
  mk ::
  at_ : Int
  list : Int
  step : Int
def p_api_Tree : api_Tree → Int × Int × List (List Int) × Unit := fun (s : api_Tree) => (s.Size, s.Leaf, s.Levels, ())
def u_api_Tree : Int × Int × List (List Int) × Unit → api_Tree := fun (x : Int × Int × List (List Int) × Unit) => (⟨x.1, x.2.1, x.2.2.1⟩ : api_Tree)
def c_api_Tree : Rep (Int × Int × List (List Int) × Unit) := (Rep.cons (Rep.int .i64) (Rep.cons (Rep.int .i64) (Rep.cons (Rep.sl (Rep.sl (Rep.int .u64) 1) 1) Rep.nilS)))
def r_api_Tree : Rep api_Tree := Rep.iso p_api_Tree c_api_Tree
theorem lay_api_Tree : r_api_Tree.Lay 3 true := Lay.iso (f := p_api_Tree) (π := c_api_Tree) (Lay.cons (Lay.int _) (Lay.cons (Lay.int _) (Lay.cons (Lay.sl _ _) Lay.nilS)))
theorem hf_api_Tree_Size : HasF r_api_Tree 0 (Rep.int .i64) api_Tree.Size := HasF.iso (f := p_api_Tree) (π := c_api_Tree) (HasF.head _ _)
theorem hf_api_Tree_Leaf : HasF r_api_Tree 1 (Rep.int .i64) api_Tree.Leaf := HasF.iso (f := p_api_Tree) (π := c_api_Tree) (HasF.tail (Lay.int _) (HasF.head _ _))
theorem hf_api_Tree_Levels : HasF r_api_Tree 2 (Rep.sl (Rep.sl (Rep.int .u64) 1) 1) api_Tree.Levels := HasF.iso (f := p_api_Tree) (π := c_api_Tree) (HasF.tail (Lay.int _) (HasF.tail (Lay.int _) (HasF.head _ _)))
theorem sf_api_Tree_Levels : SetF r_api_Tree 2 (Rep.sl (Rep.sl (Rep.int .u64) 1) 1) (fun s y => { s with Levels := y }) := SetF.iso (f := p_api_Tree) (g := u_api_Tree) (fun _ => rfl) (π := c_api_Tree) (SetF.tail (Lay.int _) (SetF.tail (Lay.int _) (SetF.head (m := 0) (Lay.sl _ _)) (fun I v x h => by obtain ⟨u, cs, _, _, h⟩ := h; exact ⟨_, h⟩)) (fun I v x h => by obtain ⟨u, cs, _, _, h⟩ := h; exact ⟨_, h⟩))
def p_api_Message : api_Message → Int × Int × Int × Int × Int × Int × List Int × List Int × Unit := fun (s : api_Message) => (s.Kind, s.From, s.To, s.Number, s.Value, s.Epoch, s.Values, s.Body, ())
def u_api_Message : Int × Int × Int × Int × Int × Int × List Int × List Int × Unit → api_Message := fun (x : Int × Int × Int × Int × Int × Int × List Int × List Int × Unit) => (⟨x.1, x.2.1, x.2.2.1, x.2.2.2.1, x.2.2.2.2.1, x.2.2.2.2.2.1, x.2.2.2.2.2.2.1, x.2.2.2.2.2.2.2.1⟩ : api_Message)
def c_api_Message : Rep (Int × Int × Int × Int × Int × Int × List Int × List Int × Unit) := (Rep.cons (Rep.int .i64) (Rep.cons (Rep.int .i64) (Rep.cons (Rep.int .i64) (Rep.cons (Rep.int .i64) (Rep.cons (Rep.int .i64) (Rep.cons (Rep.int .i64) (Rep.cons (Rep.sl (Rep.int .i64) 1) (Rep.cons (Rep.sl (Rep.int .u8) 1) Rep.nilS))))))))
def r_api_Message : Rep api_Message := Rep.iso p_api_Message c_api_Message
theorem lay_api_Message : r_api_Message.Lay 8 true := Lay.iso (f := p_api_Message) (π := c_api_Message) (Lay.cons (Lay.int _) (Lay.cons (Lay.int _) (Lay.cons (Lay.int _) (Lay.cons (Lay.int _) (Lay.cons (Lay.int _) (Lay.cons (Lay.int _) (Lay.cons (Lay.sl _ _) (Lay.cons (Lay.sl _ _) Lay.nilS))))))))
theorem hf_api_Message_Kind : HasF r_api_Message 0 (Rep.int .i64) api_Message.Kind := HasF.iso (f := p_api_Message) (π := c_api_Message) (HasF.head _ _)
theorem sf_api_Message_Kind : SetF r_api_Message 0 (Rep.int .i64) (fun s y => { s with Kind := y }) := SetF.iso (f := p_api_Message) (g := u_api_Message) (fun _ => rfl) (π := c_api_Message) (SetF.head (m := 0) (Lay.int _))
theorem hf_api_Message_From : HasF r_api_Message 1 (Rep.int .i64) api_Message.From := HasF.iso (f := p_api_Message) (π := c_api_Message) (HasF.tail (Lay.int _) (HasF.head _ _))
theorem hf_api_Message_To : HasF r_api_Message 2 (Rep.int .i64) api_Message.To := HasF.iso (f := p_api_Message) (π := c_api_Message) (HasF.tail (Lay.int _) (HasF.tail (Lay.int _) (HasF.head _ _)))
theorem hf_api_Message_Number : HasF r_api_Message 3 (Rep.int .i64) api_Message.Number := HasF.iso (f := p_api_Message) (π := c_api_Message) (HasF.tail (Lay.int _) (HasF.tail (Lay.int _) (HasF.tail (Lay.int _) (HasF.head _ _))))
theorem sf_api_Message_Number : SetF r_api_Message 3 (Rep.int .i64) (fun s y => { s with Number := y }) := SetF.iso (f := p_api_Message) (g := u_api_Message) (fun _ => rfl) (π := c_api_Message) (SetF.tail (Lay.int _) (SetF.tail (Lay.int _) (SetF.tail (Lay.int _) (SetF.head (m := 0) (Lay.int _)) (fun I v x h => by obtain ⟨u, cs, _, _, h⟩ := h; exact ⟨_, h⟩)) (fun I v x h => by obtain ⟨u, cs, _, _, h⟩ := h; exact ⟨_, h⟩)) (fun I v x h => by obtain ⟨u, cs, _, _, h⟩ := h; exact ⟨_, h⟩))
theorem hf_api_Message_Values : HasF r_api_Message 6 (Rep.sl (Rep.int .i64) 1) api_Message.Values := HasF.iso (f := p_api_Message) (π := c_api_Message) (HasF.tail (Lay.int _) (HasF.tail (Lay.int _) (HasF.tail (Lay.int _) (HasF.tail (Lay.int _) (HasF.tail (Lay.int _) (HasF.tail (Lay.int _) (HasF.head _ _)))))))
theorem sf_api_Message_Values : SetF r_api_Message 6 (Rep.sl (Rep.int .i64) 1) (fun s y => { s with Values := y }) := SetF.iso (f := p_api_Message) (g := u_api_Message) (fun _ => rfl) (π := c_api_Message) (SetF.tail (Lay.int _) (SetF.tail (Lay.int _) (SetF.tail (Lay.int _) (SetF.tail (Lay.int _) (SetF.tail (Lay.int _) (SetF.tail (Lay.int _) (SetF.head (m := 0) (Lay.sl _ _)) (fun I v x h => by obtain ⟨u, cs, _, _, h⟩ := h; exact ⟨_, h⟩)) (fun I v x h => by obtain ⟨u, cs, _, _, h⟩ := h; exact ⟨_, h⟩)) (fun I v x h => by obtain ⟨u, cs, _, _, h⟩ := h; exact ⟨_, h⟩)) (fun I v x h => by obtain ⟨u, cs, _, _, h⟩ := h; exact ⟨_, h⟩)) (fun I v x h => by obtain ⟨u, cs, _, _, h⟩ := h; exact ⟨_, h⟩)) (fun I v x h => by obtain ⟨u, cs, _, _, h⟩ := h; exact ⟨_, h⟩))
theorem hf_api_Message_Body : HasF r_api_Message 7 (Rep.sl (Rep.int .u8) 1) api_Message.Body := HasF.iso (f := p_api_Message) (π := c_api_Message) (HasF.tail (Lay.int _) (HasF.tail (Lay.int _) (HasF.tail (Lay.int _) (HasF.tail (Lay.int _) (HasF.tail (Lay.int _) (HasF.tail (Lay.int _) (HasF.tail (Lay.sl _ _) (HasF.head _ _))))))))
def p_api_Extent : api_Extent → Int × Int × Unit := fun (s : api_Extent) => (s.Start, s.Count, ())
def u_api_Extent : Int × Int × Unit → api_Extent := fun (x : Int × Int × Unit) => (⟨x.1, x.2.1⟩ : api_Extent)
def c_api_Extent : Rep (Int × Int × Unit) := (Rep.cons (Rep.int .i64) (Rep.cons (Rep.int .i64) Rep.nilS))
def r_api_Extent : Rep api_Extent := Rep.iso p_api_Extent c_api_Extent
theorem lay_api_Extent : r_api_Extent.Lay 2 true := Lay.iso (f := p_api_Extent) (π := c_api_Extent) (Lay.cons (Lay.int _) (Lay.cons (Lay.int _) Lay.nilS))
theorem hf_api_Extent_Start : HasF r_api_Extent 0 (Rep.int .i64) api_Extent.Start := HasF.iso (f := p_api_Extent) (π := c_api_Extent) (HasF.head _ _)
theorem sf_api_Extent_Start : SetF r_api_Extent 0 (Rep.int .i64) (fun s y => { s with Start := y }) := SetF.iso (f := p_api_Extent) (g := u_api_Extent) (fun _ => rfl) (π := c_api_Extent) (SetF.head (m := 0) (Lay.int _))
theorem hf_api_Extent_Count : HasF r_api_Extent 1 (Rep.int .i64) api_Extent.Count := HasF.iso (f := p_api_Extent) (π := c_api_Extent) (HasF.tail (Lay.int _) (HasF.head _ _))
theorem sf_api_Extent_Count : SetF r_api_Extent 1 (Rep.int .i64) (fun s y => { s with Count := y }) := SetF.iso (f := p_api_Extent) (g := u_api_Extent) (fun _ => rfl) (π := c_api_Extent) (SetF.tail (Lay.int _) (SetF.head (m := 0) (Lay.int _)) (fun I v x h => by obtain ⟨u, cs, _, _, h⟩ := h; exact ⟨_, h⟩))
def p_api_Walk : api_Walk → api_Tree × List api_Extent × Int × List api_Extent × Int × Bool × Unit := fun (s : api_Walk) => (s.Tree, s.Pending, s.Level, s.Found, s.Sent, s.Done, ())
def u_api_Walk : api_Tree × List api_Extent × Int × List api_Extent × Int × Bool × Unit → api_Walk := fun (x : api_Tree × List api_Extent × Int × List api_Extent × Int × Bool × Unit) => (⟨x.1, x.2.1, x.2.2.1, x.2.2.2.1, x.2.2.2.2.1, x.2.2.2.2.2.1⟩ : api_Walk)
def c_api_Walk : Rep (api_Tree × List api_Extent × Int × List api_Extent × Int × Bool × Unit) := (Rep.cons r_api_Tree (Rep.cons (Rep.sl r_api_Extent 2) (Rep.cons (Rep.int .i64) (Rep.cons (Rep.sl r_api_Extent 2) (Rep.cons (Rep.int .i64) (Rep.cons Rep.bool Rep.nilS))))))
def r_api_Walk : Rep api_Walk := Rep.iso p_api_Walk c_api_Walk
theorem lay_api_Walk : r_api_Walk.Lay 8 true := Lay.iso (f := p_api_Walk) (π := c_api_Walk) (Lay.cons lay_api_Tree (Lay.cons (Lay.sl _ _) (Lay.cons (Lay.int _) (Lay.cons (Lay.sl _ _) (Lay.cons (Lay.int _) (Lay.cons Lay.bool Lay.nilS))))))
theorem hf_api_Walk_Tree : HasF r_api_Walk 0 r_api_Tree api_Walk.Tree := HasF.iso (f := p_api_Walk) (π := c_api_Walk) (HasF.head _ _)
theorem sf_api_Walk_Tree : SetF r_api_Walk 0 r_api_Tree (fun s y => { s with Tree := y }) := SetF.iso (f := p_api_Walk) (g := u_api_Walk) (fun _ => rfl) (π := c_api_Walk) (SetF.head (m := 0) lay_api_Tree)
theorem hf_api_Walk_Pending : HasF r_api_Walk 3 (Rep.sl r_api_Extent 2) api_Walk.Pending := HasF.iso (f := p_api_Walk) (π := c_api_Walk) (HasF.tail lay_api_Tree (HasF.head _ _))
theorem sf_api_Walk_Pending : SetF r_api_Walk 3 (Rep.sl r_api_Extent 2) (fun s y => { s with Pending := y }) := SetF.iso (f := p_api_Walk) (g := u_api_Walk) (fun _ => rfl) (π := c_api_Walk) (SetF.tail lay_api_Tree (SetF.head (m := 0) (Lay.sl _ _)) (fun I v x h => by obtain ⟨u, cs, _, _, h⟩ := h; exact ⟨_, h⟩))
theorem hf_api_Walk_Level : HasF r_api_Walk 4 (Rep.int .i64) api_Walk.Level := HasF.iso (f := p_api_Walk) (π := c_api_Walk) (HasF.tail lay_api_Tree (HasF.tail (Lay.sl _ _) (HasF.head _ _)))
theorem sf_api_Walk_Level : SetF r_api_Walk 4 (Rep.int .i64) (fun s y => { s with Level := y }) := SetF.iso (f := p_api_Walk) (g := u_api_Walk) (fun _ => rfl) (π := c_api_Walk) (SetF.tail lay_api_Tree (SetF.tail (Lay.sl _ _) (SetF.head (m := 0) (Lay.int _)) (fun I v x h => by obtain ⟨u, cs, _, _, h⟩ := h; exact ⟨_, h⟩)) (fun I v x h => by obtain ⟨u, cs, _, _, h⟩ := h; exact ⟨_, h⟩))
theorem hf_api_Walk_Found : HasF r_api_Walk 5 (Rep.sl r_api_Extent 2) api_Walk.Found := HasF.iso (f := p_api_Walk) (π := c_api_Walk) (HasF.tail lay_api_Tree (HasF.tail (Lay.sl _ _) (HasF.tail (Lay.int _) (HasF.head _ _))))
theorem sf_api_Walk_Found : SetF r_api_Walk 5 (Rep.sl r_api_Extent 2) (fun s y => { s with Found := y }) := SetF.iso (f := p_api_Walk) (g := u_api_Walk) (fun _ => rfl) (π := c_api_Walk) (SetF.tail lay_api_Tree (SetF.tail (Lay.sl _ _) (SetF.tail (Lay.int _) (SetF.head (m := 0) (Lay.sl _ _)) (fun I v x h => by obtain ⟨u, cs, _, _, h⟩ := h; exact ⟨_, h⟩)) (fun I v x h => by obtain ⟨u, cs, _, _, h⟩ := h; exact ⟨_, h⟩)) (fun I v x h => by obtain ⟨u, cs, _, _, h⟩ := h; exact ⟨_, h⟩))
theorem hf_api_Walk_Sent : HasF r_api_Walk 6 (Rep.int .i64) api_Walk.Sent := HasF.iso (f := p_api_Walk) (π := c_api_Walk) (HasF.tail lay_api_Tree (HasF.tail (Lay.sl _ _) (HasF.tail (Lay.int _) (HasF.tail (Lay.sl _ _) (HasF.head _ _)))))
theorem sf_api_Walk_Sent : SetF r_api_Walk 6 (Rep.int .i64) (fun s y => { s with Sent := y }) := SetF.iso (f := p_api_Walk) (g := u_api_Walk) (fun _ => rfl) (π := c_api_Walk) (SetF.tail lay_api_Tree (SetF.tail (Lay.sl _ _) (SetF.tail (Lay.int _) (SetF.tail (Lay.sl _ _) (SetF.head (m := 0) (Lay.int _)) (fun I v x h => by obtain ⟨u, cs, _, _, h⟩ := h; exact ⟨_, h⟩)) (fun I v x h => by obtain ⟨u, cs, _, _, h⟩ := h; exact ⟨_, h⟩)) (fun I v x h => by obtain ⟨u, cs, _, _, h⟩ := h; exact ⟨_, h⟩)) (fun I v x h => by obtain ⟨u, cs, _, _, h⟩ := h; exact ⟨_, h⟩))
theorem hf_api_Walk_Done : HasF r_api_Walk 7 Rep.bool api_Walk.Done := HasF.iso (f := p_api_Walk) (π := c_api_Walk) (HasF.tail lay_api_Tree (HasF.tail (Lay.sl _ _) (HasF.tail (Lay.int _) (HasF.tail (Lay.sl _ _) (HasF.tail (Lay.int _) (HasF.head _ _))))))
theorem sf_api_Walk_Done : SetF r_api_Walk 7 Rep.bool (fun s y => { s with Done := y }) := SetF.iso (f := p_api_Walk) (g := u_api_Walk) (fun _ => rfl) (π := c_api_Walk) (SetF.tail lay_api_Tree (SetF.tail (Lay.sl _ _) (SetF.tail (Lay.int _) (SetF.tail (Lay.sl _ _) (SetF.tail (Lay.int _) (SetF.head (m := 0) Lay.bool) (fun I v x h => by obtain ⟨u, cs, _, _, h⟩ := h; exact ⟨_, h⟩)) (fun I v x h => by obtain ⟨u, cs, _, _, h⟩ := h; exact ⟨_, h⟩)) (fun I v x h => by obtain ⟨u, cs, _, _, h⟩ := h; exact ⟨_, h⟩)) (fun I v x h => by obtain ⟨u, cs, _, _, h⟩ := h; exact ⟨_, h⟩)) (fun I v x h => by obtain ⟨u, cs, _, _, h⟩ := h; exact ⟨_, h⟩))
def p_compare_walk : compare_walk → api_Walk × Unit := fun (s : compare_walk) => (s.Walk, ())
def u_compare_walk : api_Walk × Unit → compare_walk := fun (x : api_Walk × Unit) => (⟨x.1⟩ : compare_walk)
def c_compare_walk : Rep (api_Walk × Unit) := (Rep.cons r_api_Walk Rep.nilS)
def r_compare_walk : Rep compare_walk := Rep.iso p_compare_walk c_compare_walk
theorem lay_compare_walk : r_compare_walk.Lay 8 true := Lay.iso (f := p_compare_walk) (π := c_compare_walk) (Lay.cons lay_api_Walk Lay.nilS)
theorem hf_compare_walk_Walk : HasF r_compare_walk 0 r_api_Walk compare_walk.Walk := HasF.iso (f := p_compare_walk) (π := c_compare_walk) (HasF.head _ _)
theorem sf_compare_walk_Walk : SetF r_compare_walk 0 r_api_Walk (fun s y => { s with Walk := y }) := SetF.iso (f := p_compare_walk) (g := u_compare_walk) (fun _ => rfl) (π := c_compare_walk) (SetF.head (m := 0) lay_api_Walk)
def p_extent_end : extent_end → Int × Int × Int × Unit := fun (s : extent_end) => (s.at_, s.list, s.step, ())
def u_extent_end : Int × Int × Int × Unit → extent_end := fun (x : Int × Int × Int × Unit) => (⟨x.1, x.2.1, x.2.2.1⟩ : extent_end)
def c_extent_end : Rep (Int × Int × Int × Unit) := (Rep.cons (Rep.int .i64) (Rep.cons (Rep.int .i64) (Rep.cons (Rep.int .i64) Rep.nilS)))
def r_extent_end : Rep extent_end := Rep.iso p_extent_end c_extent_end
theorem lay_extent_end : r_extent_end.Lay 3 true := Lay.iso (f := p_extent_end) (π := c_extent_end) (Lay.cons (Lay.int _) (Lay.cons (Lay.int _) (Lay.cons (Lay.int _) Lay.nilS)))
theorem hf_extent_end_at_ : HasF r_extent_end 0 (Rep.int .i64) extent_end.at_ := HasF.iso (f := p_extent_end) (π := c_extent_end) (HasF.head _ _)
theorem sf_extent_end_at_ : SetF r_extent_end 0 (Rep.int .i64) (fun s y => { s with at_ := y }) := SetF.iso (f := p_extent_end) (g := u_extent_end) (fun _ => rfl) (π := c_extent_end) (SetF.head (m := 0) (Lay.int _))
theorem hf_extent_end_list : HasF r_extent_end 1 (Rep.int .i64) extent_end.list := HasF.iso (f := p_extent_end) (π := c_extent_end) (HasF.tail (Lay.int _) (HasF.head _ _))
theorem sf_extent_end_list : SetF r_extent_end 1 (Rep.int .i64) (fun s y => { s with list := y }) := SetF.iso (f := p_extent_end) (g := u_extent_end) (fun _ => rfl) (π := c_extent_end) (SetF.tail (Lay.int _) (SetF.head (m := 0) (Lay.int _)) (fun I v x h => by obtain ⟨u, cs, _, _, h⟩ := h; exact ⟨_, h⟩))
theorem hf_extent_end_step : HasF r_extent_end 2 (Rep.int .i64) extent_end.step := HasF.iso (f := p_extent_end) (π := c_extent_end) (HasF.tail (Lay.int _) (HasF.tail (Lay.int _) (HasF.head _ _)))
theorem sf_extent_end_step : SetF r_extent_end 2 (Rep.int .i64) (fun s y => { s with step := y }) := SetF.iso (f := p_extent_end) (g := u_extent_end) (fun _ => rfl) (π := c_extent_end) (SetF.tail (Lay.int _) (SetF.tail (Lay.int _) (SetF.head (m := 0) (Lay.int _)) (fun I v x h => by obtain ⟨u, cs, _, _, h⟩ := h; exact ⟨_, h⟩)) (fun I v x h => by obtain ⟨u, cs, _, _, h⟩ := h; exact ⟨_, h⟩))
theorem ty3 : Ty Try.prog 3 (Rep.int .i64) 1 false := ⟨⟨_, inf Try.type3, rfl⟩, ⟨_, Try.underlying3, rfl⟩, (Lay.int _)⟩
theorem z3 : Zero Try.prog 3 (Rep.int .i64) 0 := Zero.int (inf Try.type3) rfl
theorem ty73 : Ty Try.prog 73 (Rep.int .u64) 1 false := ⟨⟨_, inf Try.type73, rfl⟩, ⟨_, Try.underlying73, rfl⟩, (Lay.int _)⟩
theorem z73 : Zero Try.prog 73 (Rep.int .u64) 0 := Zero.int (inf Try.type73) rfl
theorem ty67 : Ty Try.prog 67 (Rep.sl (Rep.int .u64) 1) 1 false := ⟨⟨_, inf Try.type67, rfl⟩, ⟨_, Try.underlying67, rfl⟩, (Lay.sl _ _)⟩
theorem z67 : Zero Try.prog 67 (Rep.sl (Rep.int .u64) 1) [] := Zero.sl (inf Try.type67) rfl
theorem zv67 : Zero Try.prog 67 Rep.slv (.slice none 0 0) := Zero.slv (inf Try.type67) rfl
theorem tv67 : Ty Try.prog 67 Rep.slv 1 false := ⟨⟨_, inf Try.type67, rfl⟩, ⟨_, Try.underlying67, rfl⟩, Lay.slv⟩
theorem sl67 : Sl Try.prog 67 73 1 8 := ⟨Try.underlying67, ⟨_, _, inf Try.type73, rfl, rfl, rfl, rfl⟩, by decide⟩
theorem ty22 : Ty Try.prog 22 (Rep.sl (Rep.sl (Rep.int .u64) 1) 1) 1 false := ⟨⟨_, inf Try.type22, rfl⟩, ⟨_, Try.underlying22, rfl⟩, (Lay.sl _ _)⟩
theorem z22 : Zero Try.prog 22 (Rep.sl (Rep.sl (Rep.int .u64) 1) 1) [] := Zero.sl (inf Try.type22) rfl
theorem tv22 : Ty Try.prog 22 Rep.slv 1 false := ⟨⟨_, inf Try.type22, rfl⟩, ⟨_, Try.underlying22, rfl⟩, Lay.slv⟩
theorem sl22 : Sl Try.prog 22 67 1 24 := ⟨Try.underlying22, ⟨_, _, inf Try.type67, rfl, rfl, rfl, rfl⟩, by decide⟩
theorem ty24 : Ty Try.prog 24 r_api_Tree 3 true := ⟨⟨_, inf Try.type24, rfl⟩, ⟨_, Try.underlying24, rfl⟩, lay_api_Tree⟩
theorem z24 : Zero Try.prog 24 r_api_Tree (⟨0, 0, []⟩ : api_Tree) := Go.J.Zero.mk (inf Try.type24) rfl fun _ => (show c_api_Tree.rd _ _ (p_api_Tree _) from ⟨(.int .i64 0), #[(.int .i64 0), (.slice none 0 0)], rfl, ⟨(.int .i64 0), #[(.slice none 0 0)], rfl, ⟨(.slice none 0 0), #[], nil_rd, rfl, rfl⟩, rfl⟩, rfl⟩)
theorem fo24_0 : FOff Try.prog 24 0 0 := ⟨_, _, _, Try.underlying24, rfl, rfl, inf Try.type3, by decide⟩
theorem fo24_1 : FOff Try.prog 24 1 1 := ⟨_, _, _, Try.underlying24, rfl, rfl, inf Try.type3, by decide⟩
theorem fo24_2 : FOff Try.prog 24 2 2 := ⟨_, _, _, Try.underlying24, rfl, rfl, inf Try.type22, by decide⟩
theorem bd24 : Bd Try.prog 24 #[(0, 1), (1, 1), (2, 1)] := ⟨_, Try.underlying24, fun w => by simp [Try.sizeOf3, Try.sizeOf22]⟩
theorem ty4 : Ty Try.prog 4 Rep.bool 1 false := ⟨⟨_, inf Try.type4, rfl⟩, ⟨_, Try.underlying4, rfl⟩, Lay.bool⟩
theorem z4 : Zero Try.prog 4 Rep.bool false := Zero.bool (inf Try.type4) rfl
theorem ty25 : Ty Try.prog 25 (Rep.sl (Rep.int .i64) 1) 1 false := ⟨⟨_, inf Try.type25, rfl⟩, ⟨_, Try.underlying25, rfl⟩, (Lay.sl _ _)⟩
theorem z25 : Zero Try.prog 25 (Rep.sl (Rep.int .i64) 1) [] := Zero.sl (inf Try.type25) rfl
theorem zv25 : Zero Try.prog 25 Rep.slv (.slice none 0 0) := Zero.slv (inf Try.type25) rfl
theorem tv25 : Ty Try.prog 25 Rep.slv 1 false := ⟨⟨_, inf Try.type25, rfl⟩, ⟨_, Try.underlying25, rfl⟩, Lay.slv⟩
theorem sl25 : Sl Try.prog 25 3 1 8 := ⟨Try.underlying25, ⟨_, _, inf Try.type3, rfl, rfl, rfl, rfl⟩, by decide⟩
theorem ty5 : Ty Try.prog 5 (Rep.int .u8) 1 false := ⟨⟨_, inf Try.type5, rfl⟩, ⟨_, Try.underlying5, rfl⟩, (Lay.int _)⟩
theorem z5 : Zero Try.prog 5 (Rep.int .u8) 0 := Zero.int (inf Try.type5) rfl
theorem ty26 : Ty Try.prog 26 (Rep.sl (Rep.int .u8) 1) 1 false := ⟨⟨_, inf Try.type26, rfl⟩, ⟨_, Try.underlying26, rfl⟩, (Lay.sl _ _)⟩
theorem tv26 : Ty Try.prog 26 Rep.slv 1 false := ⟨⟨_, inf Try.type26, rfl⟩, ⟨_, Try.underlying26, rfl⟩, Lay.slv⟩
theorem sl26 : Sl Try.prog 26 5 1 1 := ⟨Try.underlying26, ⟨_, _, inf Try.type5, rfl, rfl, rfl, rfl⟩, by decide⟩
theorem ty28 : Ty Try.prog 28 r_api_Message 8 true := ⟨⟨_, inf Try.type28, rfl⟩, ⟨_, Try.underlying28, rfl⟩, lay_api_Message⟩
theorem z28 : Zero Try.prog 28 r_api_Message (⟨0, 0, 0, 0, 0, 0, [], []⟩ : api_Message) := Go.J.Zero.mk (inf Try.type28) rfl fun _ => (show c_api_Message.rd _ _ (p_api_Message _) from ⟨(.int .i64 0), #[(.int .i64 0), (.int .i64 0), (.int .i64 0), (.int .i64 0), (.int .i64 0), (.slice none 0 0), (.slice none 0 0)], rfl, ⟨(.int .i64 0), #[(.int .i64 0), (.int .i64 0), (.int .i64 0), (.int .i64 0), (.slice none 0 0), (.slice none 0 0)], rfl, ⟨(.int .i64 0), #[(.int .i64 0), (.int .i64 0), (.int .i64 0), (.slice none 0 0), (.slice none 0 0)], rfl, ⟨(.int .i64 0), #[(.int .i64 0), (.int .i64 0), (.slice none 0 0), (.slice none 0 0)], rfl, ⟨(.int .i64 0), #[(.int .i64 0), (.slice none 0 0), (.slice none 0 0)], rfl, ⟨(.int .i64 0), #[(.slice none 0 0), (.slice none 0 0)], rfl, ⟨(.slice none 0 0), #[(.slice none 0 0)], nil_rd, ⟨(.slice none 0 0), #[], nil_rd, rfl, rfl⟩, rfl⟩, rfl⟩, rfl⟩, rfl⟩, rfl⟩, rfl⟩, rfl⟩)
theorem fo28_0 : FOff Try.prog 28 0 0 := ⟨_, _, _, Try.underlying28, rfl, rfl, inf Try.type3, by decide⟩
theorem fo28_1 : FOff Try.prog 28 1 1 := ⟨_, _, _, Try.underlying28, rfl, rfl, inf Try.type3, by decide⟩
theorem fo28_2 : FOff Try.prog 28 2 2 := ⟨_, _, _, Try.underlying28, rfl, rfl, inf Try.type3, by decide⟩
theorem fo28_3 : FOff Try.prog 28 3 3 := ⟨_, _, _, Try.underlying28, rfl, rfl, inf Try.type3, by decide⟩
theorem fo28_6 : FOff Try.prog 28 6 6 := ⟨_, _, _, Try.underlying28, rfl, rfl, inf Try.type25, by decide⟩
theorem fo28_7 : FOff Try.prog 28 7 7 := ⟨_, _, _, Try.underlying28, rfl, rfl, inf Try.type26, by decide⟩
theorem bd28 : Bd Try.prog 28 #[(0, 1), (1, 1), (2, 1), (3, 1), (4, 1), (5, 1), (6, 1), (7, 1)] := ⟨_, Try.underlying28, fun w => by simp [Try.sizeOf3, Try.sizeOf25, Try.sizeOf26]⟩
theorem ar153 : Ar Try.prog 153 5 1 16 := ⟨Try.underlying153, _, inf Try.type5, rfl⟩
theorem z153 : Zero Try.prog 153 (Rep.arr (Rep.int .u8) 1 16) (List.replicate 16 0) := Zero.arr1 (v := .int .u8 0) (inf Try.type153) rfl rfl (fun _ => rfl)
theorem ty62 : Ty Try.prog 62 r_api_Extent 2 true := ⟨⟨_, inf Try.type62, rfl⟩, ⟨_, Try.underlying62, rfl⟩, lay_api_Extent⟩
theorem z62 : Zero Try.prog 62 r_api_Extent (⟨0, 0⟩ : api_Extent) := Go.J.Zero.mk (inf Try.type62) rfl fun _ => (show c_api_Extent.rd _ _ (p_api_Extent _) from ⟨(.int .i64 0), #[(.int .i64 0)], rfl, ⟨(.int .i64 0), #[], rfl, rfl, rfl⟩, rfl⟩)
theorem fo62_0 : FOff Try.prog 62 0 0 := ⟨_, _, _, Try.underlying62, rfl, rfl, inf Try.type3, by decide⟩
theorem fo62_1 : FOff Try.prog 62 1 1 := ⟨_, _, _, Try.underlying62, rfl, rfl, inf Try.type3, by decide⟩
def eq_api_Extent (x y : api_Extent) : Bool := x.Start == y.Start && x.Count == y.Count
theorem form_api_Extent {I : Imm} {u : Go.Value} {x : api_Extent} (h : r_api_Extent.rd I u x) : u = .agg #[.int .i64 x.Start, .int .i64 x.Count] := by
  obtain ⟨u0, c0, h0, ⟨u1, c1, h1, hz, k1⟩, k0⟩ := h
  have h0 : u0 = (.int .i64 x.Start) := h0
  have h1 : u1 = (.int .i64 x.Count) := h1
  have hz : Go.Value.agg c1 = .agg #[] := hz
  simp only [Go.Value.agg.injEq] at hz k1
  subst hz h0 h1
  subst k1
  simp [k0, Go.Value.cells]
theorem eqok62 : EqOK Try.prog 62 r_api_Extent eq_api_Extent := ⟨Try.eqGuardType62, fun I u v x y w hu hv => by
  rw [form_api_Extent hu, form_api_Extent hv]
  refine ⟨_, _, rfl, rfl, ?_⟩
  have hS : Try.prog.underlying 62 = some (.struct (Try.prog.fieldsOf 62)) := by simp only [Go.Program.fieldsOf, Try.underlying62]
  rw [show (10000 : Nat) = 9999 + 1 from rfl, Go.run_equalIn_agg w 9999 62 _ _ hS Try.stoodInHeld62]
  simp only [Go.Program.fieldsOf, Try.underlying62]
  simp [Go.Op.eqFields, Go.part, Try.isAgg3, Go.run_equalIn_int w 9998 3 .i64 .i64 _ _ Try.underlying3]
  all_goals simp only [eq_api_Extent]
  by_cases q0 : x.Start = y.Start <;> by_cases q1 : x.Count = y.Count <;> simp [q0, q1, Go.run_equalIn_int w 9998 3 .i64 .i64 _ _ Try.underlying3]⟩
theorem bd62 : Bd Try.prog 62 #[(0, 1), (1, 1)] := ⟨_, Try.underlying62, fun w => by simp [Try.sizeOf3]⟩
theorem ty39 : Ty Try.prog 39 (Rep.sl r_api_Extent 2) 1 false := ⟨⟨_, inf Try.type39, rfl⟩, ⟨_, Try.underlying39, rfl⟩, (Lay.sl _ _)⟩
theorem z39 : Zero Try.prog 39 (Rep.sl r_api_Extent 2) [] := Zero.sl (inf Try.type39) rfl
theorem zv39 : Zero Try.prog 39 Rep.slv (.slice none 0 0) := Zero.slv (inf Try.type39) rfl
theorem tv39 : Ty Try.prog 39 Rep.slv 1 false := ⟨⟨_, inf Try.type39, rfl⟩, ⟨_, Try.underlying39, rfl⟩, Lay.slv⟩
theorem sl39 : Sl Try.prog 39 62 2 16 := ⟨Try.underlying39, ⟨_, _, inf Try.type62, rfl, rfl, rfl, rfl⟩, by decide⟩
theorem ty41 : Ty Try.prog 41 r_api_Walk 8 true := ⟨⟨_, inf Try.type41, rfl⟩, ⟨_, Try.underlying41, rfl⟩, lay_api_Walk⟩
theorem z41 : Zero Try.prog 41 r_api_Walk (⟨(⟨0, 0, []⟩ : api_Tree), [], 0, [], 0, false⟩ : api_Walk) := Go.J.Zero.mk (inf Try.type41) rfl fun _ => (show c_api_Walk.rd _ _ (p_api_Walk _) from ⟨.agg #[(.int .i64 0), (.int .i64 0), (.slice none 0 0)], #[(.slice none 0 0), (.int .i64 0), (.slice none 0 0), (.int .i64 0), (.bool false)], ⟨(.int .i64 0), #[(.int .i64 0), (.slice none 0 0)], rfl, ⟨(.int .i64 0), #[(.slice none 0 0)], rfl, ⟨(.slice none 0 0), #[], nil_rd, rfl, rfl⟩, rfl⟩, rfl⟩, ⟨(.slice none 0 0), #[(.int .i64 0), (.slice none 0 0), (.int .i64 0), (.bool false)], nil_rd, ⟨(.int .i64 0), #[(.slice none 0 0), (.int .i64 0), (.bool false)], rfl, ⟨(.slice none 0 0), #[(.int .i64 0), (.bool false)], nil_rd, ⟨(.int .i64 0), #[(.bool false)], rfl, ⟨(.bool false), #[], rfl, rfl, rfl⟩, rfl⟩, rfl⟩, rfl⟩, rfl⟩, rfl⟩)
theorem fo41_0 : FOff Try.prog 41 0 0 := ⟨_, _, _, Try.underlying41, rfl, rfl, inf Try.type24, by decide⟩
theorem fo41_1 : FOff Try.prog 41 1 3 := ⟨_, _, _, Try.underlying41, rfl, rfl, inf Try.type39, by decide⟩
theorem fo41_2 : FOff Try.prog 41 2 4 := ⟨_, _, _, Try.underlying41, rfl, rfl, inf Try.type3, by decide⟩
theorem fo41_3 : FOff Try.prog 41 3 5 := ⟨_, _, _, Try.underlying41, rfl, rfl, inf Try.type39, by decide⟩
theorem fo41_4 : FOff Try.prog 41 4 6 := ⟨_, _, _, Try.underlying41, rfl, rfl, inf Try.type3, by decide⟩
theorem fo41_5 : FOff Try.prog 41 5 7 := ⟨_, _, _, Try.underlying41, rfl, rfl, inf Try.type4, by decide⟩
theorem bd41 : Bd Try.prog 41 #[(0, 3), (3, 1), (4, 1), (5, 1), (6, 1), (7, 1)] := ⟨_, Try.underlying41, fun w => by simp [Try.sizeOf3, Try.sizeOf4, Try.sizeOf24, Try.sizeOf39]⟩
theorem z98 : Zero Try.prog 98 r_compare_walk (⟨(⟨(⟨0, 0, []⟩ : api_Tree), [], 0, [], 0, false⟩ : api_Walk)⟩ : compare_walk) := Go.J.Zero.mk (inf Try.type98) rfl fun _ => (show c_compare_walk.rd _ _ (p_compare_walk _) from ⟨.agg #[(.int .i64 0), (.int .i64 0), (.slice none 0 0), (.slice none 0 0), (.int .i64 0), (.slice none 0 0), (.int .i64 0), (.bool false)], #[], ⟨.agg #[(.int .i64 0), (.int .i64 0), (.slice none 0 0)], #[(.slice none 0 0), (.int .i64 0), (.slice none 0 0), (.int .i64 0), (.bool false)], ⟨(.int .i64 0), #[(.int .i64 0), (.slice none 0 0)], rfl, ⟨(.int .i64 0), #[(.slice none 0 0)], rfl, ⟨(.slice none 0 0), #[], nil_rd, rfl, rfl⟩, rfl⟩, rfl⟩, ⟨(.slice none 0 0), #[(.int .i64 0), (.slice none 0 0), (.int .i64 0), (.bool false)], nil_rd, ⟨(.int .i64 0), #[(.slice none 0 0), (.int .i64 0), (.bool false)], rfl, ⟨(.slice none 0 0), #[(.int .i64 0), (.bool false)], nil_rd, ⟨(.int .i64 0), #[(.bool false)], rfl, ⟨(.bool false), #[], rfl, rfl, rfl⟩, rfl⟩, rfl⟩, rfl⟩, rfl⟩, rfl⟩, rfl, rfl⟩)
theorem fo98_0 : FOff Try.prog 98 0 0 := ⟨_, _, _, Try.underlying98, rfl, rfl, inf Try.type41, by decide⟩
theorem bd98 : Bd Try.prog 98 #[(0, 8)] := ⟨_, Try.underlying98, fun w => by simp [Try.sizeOf41]⟩
theorem ty151 : Ty Try.prog 151 r_extent_end 3 true := ⟨⟨_, inf Try.type151, rfl⟩, ⟨_, Try.underlying151, rfl⟩, lay_extent_end⟩
theorem z151 : Zero Try.prog 151 r_extent_end (⟨0, 0, 0⟩ : extent_end) := Go.J.Zero.mk (inf Try.type151) rfl fun _ => (show c_extent_end.rd _ _ (p_extent_end _) from ⟨(.int .i64 0), #[(.int .i64 0), (.int .i64 0)], rfl, ⟨(.int .i64 0), #[(.int .i64 0)], rfl, ⟨(.int .i64 0), #[], rfl, rfl, rfl⟩, rfl⟩, rfl⟩)
theorem fo151_0 : FOff Try.prog 151 0 0 := ⟨_, _, _, Try.underlying151, rfl, rfl, inf Try.type3, by decide⟩
theorem fo151_1 : FOff Try.prog 151 1 1 := ⟨_, _, _, Try.underlying151, rfl, rfl, inf Try.type3, by decide⟩
theorem fo151_2 : FOff Try.prog 151 2 2 := ⟨_, _, _, Try.underlying151, rfl, rfl, inf Try.type3, by decide⟩
theorem form_extent_end {I : Imm} {u : Go.Value} {x : extent_end} (h : r_extent_end.rd I u x) : u = .agg #[.int .i64 x.at_, .int .i64 x.list, .int .i64 x.step] := by
  obtain ⟨u0, c0, h0, ⟨u1, c1, h1, ⟨u2, c2, h2, hz, k2⟩, k1⟩, k0⟩ := h
  have h0 : u0 = (.int .i64 x.at_) := h0
  have h1 : u1 = (.int .i64 x.list) := h1
  have h2 : u2 = (.int .i64 x.step) := h2
  have hz : Go.Value.agg c2 = .agg #[] := hz
  simp only [Go.Value.agg.injEq] at hz k1 k2
  subst hz h0 h1 h2
  subst k2 k1
  simp [k0, Go.Value.cells]
theorem bd151 : Bd Try.prog 151 #[(0, 1), (1, 1), (2, 1)] := ⟨_, Try.underlying151, fun w => by simp [Try.sizeOf3]⟩
theorem sl147 : Sl Try.prog 147 151 3 24 := ⟨Try.underlying147, ⟨_, _, inf Try.type151, rfl, rfl, rfl, rfl⟩, by decide⟩
theorem sl155 : Sl Try.prog 155 39 1 24 := ⟨Try.underlying155, ⟨_, _, inf Try.type39, rfl, rfl, rfl, rfl⟩, by decide⟩
theorem ty136 : Ty Try.prog 136 (Rep.fn2 Try.prog Rep.bool Rep.bool Rep.bool) 1 false := ⟨⟨_, inf Try.type136, rfl⟩, ⟨_, Try.underlying136, rfl⟩, Lay.fn2⟩
theorem ar149 : Ar Try.prog 149 3 1 2 := ⟨Try.underlying149, _, inf Try.type3, rfl⟩
theorem z149 : Zero Try.prog 149 (Rep.arr (Rep.int .i64) 1 2) (List.replicate 2 0) := Zero.arr1 (v := .int .i64 0) (inf Try.type149) rfl rfl (fun _ => rfl)
theorem ty96 : Ty Try.prog 96 Rep.ptr 1 false := ⟨⟨_, inf Try.type96, rfl⟩, ⟨_, Try.underlying96, rfl⟩, Lay.ptr⟩
theorem sl43 : Sl Try.prog 43 28 8 96 := ⟨Try.underlying43, ⟨_, _, inf Try.type28, rfl, rfl, rfl, rfl⟩, by decide⟩
theorem ty76 : Ty Try.prog 76 (Rep.arr (Rep.int .u8) 1 8) 8 true := ⟨⟨_, inf Try.type76, rfl⟩, ⟨_, Try.underlying76, rfl⟩, (Lay.arr (Lay.int _))⟩
theorem ar76 : Ar Try.prog 76 5 1 8 := ⟨Try.underlying76, _, inf Try.type5, rfl⟩
theorem z76 : Zero Try.prog 76 (Rep.arr (Rep.int .u8) 1 8) (List.replicate 8 0) := Zero.arr1 (v := .int .u8 0) (inf Try.type76) rfl rfl (fun _ => rfl)
theorem ty64 : Ty Try.prog 64 (Rep.sl (Rep.arr (Rep.int .u8) 1 8) 8) 1 false := ⟨⟨_, inf Try.type64, rfl⟩, ⟨_, Try.underlying64, rfl⟩, (Lay.sl _ _)⟩
theorem sl64 : Sl Try.prog 64 76 8 8 := ⟨Try.underlying64, ⟨_, _, inf Try.type76, rfl, rfl, rfl, rfl⟩, by decide⟩
theorem sl113 : Sl Try.prog 113 24 3 40 := ⟨Try.underlying113, ⟨_, _, inf Try.type24, rfl, rfl, rfl, rfl⟩, by decide⟩
theorem ar114 : Ar Try.prog 114 25 1 16 := ⟨Try.underlying114, _, inf Try.type25, rfl⟩
def p_api_Tree_h2 : api_Tree × Go.Value → Int × Int × Go.Value × Unit := fun q => (q.1.Size, q.1.Leaf, q.2, ())
def u_api_Tree_h2 : Int × Int × Go.Value × Unit → api_Tree × Go.Value := fun x => ((⟨x.1, x.2.1, []⟩ : api_Tree), x.2.2.1)
def c_api_Tree_h2 : Rep (Int × Int × Go.Value × Unit) := (Rep.cons (Rep.int .i64) (Rep.cons (Rep.int .i64) (Rep.cons Rep.slv Rep.nilS)))
def r_api_Tree_h2 : Rep (api_Tree × Go.Value) := Rep.iso p_api_Tree_h2 c_api_Tree_h2
theorem lay_api_Tree_h2 : r_api_Tree_h2.Lay 3 true := Lay.iso (f := p_api_Tree_h2) (π := c_api_Tree_h2) (Lay.cons (Lay.int _) (Lay.cons (Lay.int _) (Lay.cons Lay.slv Lay.nilS)))
theorem hf_api_Tree_h2_Levels : HasF r_api_Tree_h2 2 Rep.slv (fun q => q.2) := HasF.iso (f := p_api_Tree_h2) (π := c_api_Tree_h2) (HasF.tail (Lay.int _) (HasF.tail (Lay.int _) (HasF.head _ _)))
theorem ty_api_Tree_h2 : Ty Try.prog 24 r_api_Tree_h2 3 true := ⟨⟨_, inf Try.type24, rfl⟩, ⟨_, Try.underlying24, rfl⟩, lay_api_Tree_h2⟩
theorem z_api_Tree_h2 : Zero Try.prog 24 r_api_Tree_h2 ((⟨0, 0, []⟩ : api_Tree), (.slice none 0 0 : Go.Value)) := Go.J.Zero.mk (inf Try.type24) rfl fun _ => (show c_api_Tree_h2.rd _ _ (p_api_Tree_h2 _) from ⟨(.int .i64 0), #[(.int .i64 0), (.slice none 0 0)], rfl, ⟨(.int .i64 0), #[(.slice none 0 0)], rfl, ⟨(.slice none 0 0), #[], ⟨rfl, _, _, _, rfl⟩, rfl, rfl⟩, rfl⟩, rfl⟩)
theorem sg_api_Tree_h2__api_Tree_h2__1 : SetG r_api_Tree_h2 r_api_Tree_h2 1 (Rep.int .i64) (fun q y => ((⟨q.1.Size, y, []⟩ : api_Tree), q.2)) := (SetG.iso (f := p_api_Tree_h2) (f' := p_api_Tree_h2) (k := u_api_Tree_h2) (fun _ => rfl) (π := c_api_Tree_h2) (π' := c_api_Tree_h2) (SetG.tail (Lay.int _) (SetG.head (Lay.int _) (Lay.int _)) agg_cons))
theorem sg_api_Tree_h2__api_Tree_h2__0 : SetG r_api_Tree_h2 r_api_Tree_h2 0 (Rep.int .i64) (fun q y => ((⟨y, q.1.Leaf, []⟩ : api_Tree), q.2)) := (SetG.iso (f := p_api_Tree_h2) (f' := p_api_Tree_h2) (k := u_api_Tree_h2) (fun _ => rfl) (π := c_api_Tree_h2) (π' := c_api_Tree_h2) (SetG.head (Lay.int _) (Lay.int _)))
theorem sg_api_Tree_h2__api_Tree_h2__2 : SetG r_api_Tree_h2 r_api_Tree_h2 2 Rep.slv (fun q y => ((⟨q.1.Size, q.1.Leaf, []⟩ : api_Tree), y)) := (SetG.iso (f := p_api_Tree_h2) (f' := p_api_Tree_h2) (k := u_api_Tree_h2) (fun _ => rfl) (π := c_api_Tree_h2) (π' := c_api_Tree_h2) (SetG.tail (Lay.int _) (SetG.tail (Lay.int _) (SetG.head Lay.slv Lay.slv) agg_cons) agg_cons))
def p_api_Message_h7 : api_Message × Go.Value → Int × Int × Int × Int × Int × Int × List Int × Go.Value × Unit := fun q => (q.1.Kind, q.1.From, q.1.To, q.1.Number, q.1.Value, q.1.Epoch, q.1.Values, q.2, ())
def u_api_Message_h7 : Int × Int × Int × Int × Int × Int × List Int × Go.Value × Unit → api_Message × Go.Value := fun x => ((⟨x.1, x.2.1, x.2.2.1, x.2.2.2.1, x.2.2.2.2.1, x.2.2.2.2.2.1, x.2.2.2.2.2.2.1, []⟩ : api_Message), x.2.2.2.2.2.2.2.1)
def c_api_Message_h7 : Rep (Int × Int × Int × Int × Int × Int × List Int × Go.Value × Unit) := (Rep.cons (Rep.int .i64) (Rep.cons (Rep.int .i64) (Rep.cons (Rep.int .i64) (Rep.cons (Rep.int .i64) (Rep.cons (Rep.int .i64) (Rep.cons (Rep.int .i64) (Rep.cons (Rep.sl (Rep.int .i64) 1) (Rep.cons Rep.slv Rep.nilS))))))))
def r_api_Message_h7 : Rep (api_Message × Go.Value) := Rep.iso p_api_Message_h7 c_api_Message_h7
theorem lay_api_Message_h7 : r_api_Message_h7.Lay 8 true := Lay.iso (f := p_api_Message_h7) (π := c_api_Message_h7) (Lay.cons (Lay.int _) (Lay.cons (Lay.int _) (Lay.cons (Lay.int _) (Lay.cons (Lay.int _) (Lay.cons (Lay.int _) (Lay.cons (Lay.int _) (Lay.cons (Lay.sl _ _) (Lay.cons Lay.slv Lay.nilS))))))))
theorem hf_api_Message_h7_Body : HasF r_api_Message_h7 7 Rep.slv (fun q => q.2) := HasF.iso (f := p_api_Message_h7) (π := c_api_Message_h7) (HasF.tail (Lay.int _) (HasF.tail (Lay.int _) (HasF.tail (Lay.int _) (HasF.tail (Lay.int _) (HasF.tail (Lay.int _) (HasF.tail (Lay.int _) (HasF.tail (Lay.sl _ _) (HasF.head _ _))))))))
theorem ty_api_Message_h7 : Ty Try.prog 28 r_api_Message_h7 8 true := ⟨⟨_, inf Try.type28, rfl⟩, ⟨_, Try.underlying28, rfl⟩, lay_api_Message_h7⟩
theorem z_api_Message_h7 : Zero Try.prog 28 r_api_Message_h7 ((⟨0, 0, 0, 0, 0, 0, [], []⟩ : api_Message), (.slice none 0 0 : Go.Value)) := Go.J.Zero.mk (inf Try.type28) rfl fun _ => (show c_api_Message_h7.rd _ _ (p_api_Message_h7 _) from ⟨(.int .i64 0), #[(.int .i64 0), (.int .i64 0), (.int .i64 0), (.int .i64 0), (.int .i64 0), (.slice none 0 0), (.slice none 0 0)], rfl, ⟨(.int .i64 0), #[(.int .i64 0), (.int .i64 0), (.int .i64 0), (.int .i64 0), (.slice none 0 0), (.slice none 0 0)], rfl, ⟨(.int .i64 0), #[(.int .i64 0), (.int .i64 0), (.int .i64 0), (.slice none 0 0), (.slice none 0 0)], rfl, ⟨(.int .i64 0), #[(.int .i64 0), (.int .i64 0), (.slice none 0 0), (.slice none 0 0)], rfl, ⟨(.int .i64 0), #[(.int .i64 0), (.slice none 0 0), (.slice none 0 0)], rfl, ⟨(.int .i64 0), #[(.slice none 0 0), (.slice none 0 0)], rfl, ⟨(.slice none 0 0), #[(.slice none 0 0)], nil_rd, ⟨(.slice none 0 0), #[], ⟨rfl, _, _, _, rfl⟩, rfl, rfl⟩, rfl⟩, rfl⟩, rfl⟩, rfl⟩, rfl⟩, rfl⟩, rfl⟩)
theorem sg_api_Message_h7__api_Message_h7__6 : SetG r_api_Message_h7 r_api_Message_h7 6 (Rep.sl (Rep.int .i64) 1) (fun q y => ((⟨q.1.Kind, q.1.From, q.1.To, q.1.Number, q.1.Value, q.1.Epoch, y, []⟩ : api_Message), q.2)) := (SetG.iso (f := p_api_Message_h7) (f' := p_api_Message_h7) (k := u_api_Message_h7) (fun _ => rfl) (π := c_api_Message_h7) (π' := c_api_Message_h7) (SetG.tail (Lay.int _) (SetG.tail (Lay.int _) (SetG.tail (Lay.int _) (SetG.tail (Lay.int _) (SetG.tail (Lay.int _) (SetG.tail (Lay.int _) (SetG.head (Lay.sl _ _) (Lay.sl _ _)) agg_cons) agg_cons) agg_cons) agg_cons) agg_cons) agg_cons))
theorem sg_api_Message_h7__api_Message_h7__3 : SetG r_api_Message_h7 r_api_Message_h7 3 (Rep.int .i64) (fun q y => ((⟨q.1.Kind, q.1.From, q.1.To, y, q.1.Value, q.1.Epoch, q.1.Values, []⟩ : api_Message), q.2)) := (SetG.iso (f := p_api_Message_h7) (f' := p_api_Message_h7) (k := u_api_Message_h7) (fun _ => rfl) (π := c_api_Message_h7) (π' := c_api_Message_h7) (SetG.tail (Lay.int _) (SetG.tail (Lay.int _) (SetG.tail (Lay.int _) (SetG.head (Lay.int _) (Lay.int _)) agg_cons) agg_cons) agg_cons))
theorem sg_api_Message_h7__api_Message_h7__2 : SetG r_api_Message_h7 r_api_Message_h7 2 (Rep.int .i64) (fun q y => ((⟨q.1.Kind, q.1.From, y, q.1.Number, q.1.Value, q.1.Epoch, q.1.Values, []⟩ : api_Message), q.2)) := (SetG.iso (f := p_api_Message_h7) (f' := p_api_Message_h7) (k := u_api_Message_h7) (fun _ => rfl) (π := c_api_Message_h7) (π' := c_api_Message_h7) (SetG.tail (Lay.int _) (SetG.tail (Lay.int _) (SetG.head (Lay.int _) (Lay.int _)) agg_cons) agg_cons))
theorem sg_api_Message_h7__api_Message_h7__1 : SetG r_api_Message_h7 r_api_Message_h7 1 (Rep.int .i64) (fun q y => ((⟨q.1.Kind, y, q.1.To, q.1.Number, q.1.Value, q.1.Epoch, q.1.Values, []⟩ : api_Message), q.2)) := (SetG.iso (f := p_api_Message_h7) (f' := p_api_Message_h7) (k := u_api_Message_h7) (fun _ => rfl) (π := c_api_Message_h7) (π' := c_api_Message_h7) (SetG.tail (Lay.int _) (SetG.head (Lay.int _) (Lay.int _)) agg_cons))
theorem sg_api_Message_h7__api_Message_h7__0 : SetG r_api_Message_h7 r_api_Message_h7 0 (Rep.int .i64) (fun q y => ((⟨y, q.1.From, q.1.To, q.1.Number, q.1.Value, q.1.Epoch, q.1.Values, []⟩ : api_Message), q.2)) := (SetG.iso (f := p_api_Message_h7) (f' := p_api_Message_h7) (k := u_api_Message_h7) (fun _ => rfl) (π := c_api_Message_h7) (π' := c_api_Message_h7) (SetG.head (Lay.int _) (Lay.int _)))
theorem sg_api_Message_h7__api_Message_h7__7 : SetG r_api_Message_h7 r_api_Message_h7 7 Rep.slv (fun q y => ((⟨q.1.Kind, q.1.From, q.1.To, q.1.Number, q.1.Value, q.1.Epoch, q.1.Values, []⟩ : api_Message), y)) := (SetG.iso (f := p_api_Message_h7) (f' := p_api_Message_h7) (k := u_api_Message_h7) (fun _ => rfl) (π := c_api_Message_h7) (π' := c_api_Message_h7) (SetG.tail (Lay.int _) (SetG.tail (Lay.int _) (SetG.tail (Lay.int _) (SetG.tail (Lay.int _) (SetG.tail (Lay.int _) (SetG.tail (Lay.int _) (SetG.tail (Lay.sl _ _) (SetG.head Lay.slv Lay.slv) agg_cons) agg_cons) agg_cons) agg_cons) agg_cons) agg_cons) agg_cons))
def p_api_Walk_h1 : api_Walk × Go.Value → api_Tree × Go.Value × Int × List api_Extent × Int × Bool × Unit := fun q => (q.1.Tree, q.2, q.1.Level, q.1.Found, q.1.Sent, q.1.Done, ())
def u_api_Walk_h1 : api_Tree × Go.Value × Int × List api_Extent × Int × Bool × Unit → api_Walk × Go.Value := fun x => ((⟨x.1, [], x.2.2.1, x.2.2.2.1, x.2.2.2.2.1, x.2.2.2.2.2.1⟩ : api_Walk), x.2.1)
def c_api_Walk_h1 : Rep (api_Tree × Go.Value × Int × List api_Extent × Int × Bool × Unit) := (Rep.cons r_api_Tree (Rep.cons Rep.slv (Rep.cons (Rep.int .i64) (Rep.cons (Rep.sl r_api_Extent 2) (Rep.cons (Rep.int .i64) (Rep.cons Rep.bool Rep.nilS))))))
def r_api_Walk_h1 : Rep (api_Walk × Go.Value) := Rep.iso p_api_Walk_h1 c_api_Walk_h1
theorem lay_api_Walk_h1 : r_api_Walk_h1.Lay 8 true := Lay.iso (f := p_api_Walk_h1) (π := c_api_Walk_h1) (Lay.cons lay_api_Tree (Lay.cons Lay.slv (Lay.cons (Lay.int _) (Lay.cons (Lay.sl _ _) (Lay.cons (Lay.int _) (Lay.cons Lay.bool Lay.nilS))))))
theorem hf_api_Walk_h1_Tree : HasF r_api_Walk_h1 0 r_api_Tree (fun q => q.1.Tree) := HasF.iso (f := p_api_Walk_h1) (π := c_api_Walk_h1) (HasF.head _ _)
theorem hf_api_Walk_h1_Pending : HasF r_api_Walk_h1 3 Rep.slv (fun q => q.2) := HasF.iso (f := p_api_Walk_h1) (π := c_api_Walk_h1) (HasF.tail lay_api_Tree (HasF.head _ _))
theorem hf_api_Walk_h1_Level : HasF r_api_Walk_h1 4 (Rep.int .i64) (fun q => q.1.Level) := HasF.iso (f := p_api_Walk_h1) (π := c_api_Walk_h1) (HasF.tail lay_api_Tree (HasF.tail Lay.slv (HasF.head _ _)))
def p_compare_walk_h0_1 : compare_walk × Go.Value → (api_Walk × Go.Value) × Unit := fun q => ((q.1.Walk, q.2), ())
def u_compare_walk_h0_1 : (api_Walk × Go.Value) × Unit → compare_walk × Go.Value := fun x => ((⟨x.1.1⟩ : compare_walk), x.1.2)
def c_compare_walk_h0_1 : Rep ((api_Walk × Go.Value) × Unit) := (Rep.cons r_api_Walk_h1 Rep.nilS)
def r_compare_walk_h0_1 : Rep (compare_walk × Go.Value) := Rep.iso p_compare_walk_h0_1 c_compare_walk_h0_1
theorem hf_compare_walk_h0_1_Walk : HasF r_compare_walk_h0_1 0 r_api_Walk_h1 (fun q => (q.1.Walk, q.2)) := HasF.iso (f := p_compare_walk_h0_1) (π := c_compare_walk_h0_1) (HasF.head _ _)
theorem sg_compare_walk__compare_walk_h0_1__0_1 : SetG r_compare_walk r_compare_walk_h0_1 3 Rep.slv (fun q y => ((⟨(⟨q.Walk.Tree, [], q.Walk.Level, q.Walk.Found, q.Walk.Sent, q.Walk.Done⟩ : api_Walk)⟩ : compare_walk), y)) := (SetG.iso (f := p_compare_walk) (f' := p_compare_walk_h0_1) (k := u_compare_walk_h0_1) (fun _ => rfl) (π := c_compare_walk) (π' := c_compare_walk_h0_1) (SetG.headIn lay_api_Walk lay_api_Walk_h1 (SetG.iso (f := p_api_Walk) (f' := p_api_Walk_h1) (k := u_api_Walk_h1) (fun _ => rfl) (π := c_api_Walk) (π' := c_api_Walk_h1) (SetG.tail lay_api_Tree (SetG.head (Lay.sl _ _) Lay.slv) agg_cons))))
theorem sg_compare_walk_h0_1__compare_walk_h0_1__0_1 : SetG r_compare_walk_h0_1 r_compare_walk_h0_1 3 Rep.slv (fun q y => ((⟨(⟨q.1.Walk.Tree, [], q.1.Walk.Level, q.1.Walk.Found, q.1.Walk.Sent, q.1.Walk.Done⟩ : api_Walk)⟩ : compare_walk), y)) := (SetG.iso (f := p_compare_walk_h0_1) (f' := p_compare_walk_h0_1) (k := u_compare_walk_h0_1) (fun _ => rfl) (π := c_compare_walk_h0_1) (π' := c_compare_walk_h0_1) (SetG.headIn lay_api_Walk_h1 lay_api_Walk_h1 (SetG.iso (f := p_api_Walk_h1) (f' := p_api_Walk_h1) (k := u_api_Walk_h1) (fun _ => rfl) (π := c_api_Walk_h1) (π' := c_api_Walk_h1) (SetG.tail lay_api_Tree (SetG.head Lay.slv Lay.slv) agg_cons))))
end Go.Proofs.Ytogflgcngfghpaa
end
section
set_option maxHeartbeats 4000000
set_option linter.unusedVariables false
set_option linter.unusedSimpArgs false
namespace Go.Proofs.Ytogflgcngfghpaa
open Go.J
def f_checksum_digest (a0 : List Int) : Option (Int) :=
 (eachN (σ := Int) (fun x4 s2 => some (Rd.next (IntKind.u64.wrap ((xorI .u64 s2 (IntKind.u64.wrap x4)) * 1099511628211)))) a0 14695981039346656037).bind fun so5 => (shrI .u64 so5 32).bind fun x10 => some (xorI .u64 so5 x10)
theorem c_checksum_digest {a0 : List Int} {r : Int} (h : f_checksum_digest a0 = some r) : Ct Try.prog 88 [(Rep.iter Try.prog (Rep.int .u8)).at a0] [] (fun _ : Unit => (Rep.int .u64).at r) (fun _ => []) := by
 refine Ct.mkM Try.func88 rfl Try.ntmps88 (by simp) fun I R => ?_
 refine J.drop0 ?_
 unfold f_checksum_digest at h
 refine J_seq ?_
 refine J_region ?_
 refine JLp (T_assign rfl) rfl (nofun) .none ?_
 refine JL_nil ?_
 refine KJ_nrm_then (KJ_J ?_)
 refine J_seq ?_
 refine J_region ?_
 refine JLa (T_alloc z73 (Lay.int _)) rfl .none fun b1 => ?_
 refine JLn1 (T_store ty73 rfl (.mk rfl) (SetF.self (Lay.int _))) .none ?_
 refine JL_nil ?_
 refine KJ_nrm_then (KJ_J ?_)
 refine J_seq ?_
 refine J_seq ?_
 refine J_region ?_
 refine JLp (T_move rfl) rfl (nofun) .none ?_
 refine JL_nil ?_
 refine KJ_nrm_then (KJ_J ?_)
 replace h := bnd h; obtain ⟨so5, ho6, h⟩ := h
 refine J_rforN ho6 [(3, Rep.ptr.at (b1, 0)), (5, (Rep.iter Try.prog (Rep.int .u8)).at a0)] (fun x4 (gx : Unit) => [(3, Rep.ptr.at (b1, 0)), (5, (Rep.iter Try.prog (Rep.int .u8)).at a0), (4, (Rep.int .u8).at x4)]) (fun x4 gx => []) (fun (s2 : Int) (g3 : Unit) => [Ent.box b1 (Rep.int .u64) s2]) () rfl (.mk rfl) (.cons rfl (.cons rfl (.nil _))) rfl rfl ?_ ?_ ?_
 ·intro l I1 R1 x4 s2 g3
  refine J_region ?_
  refine JLp (T_assign rfl) rfl (nofun) .none ?_
  refine JL_nil ?_
  exact KJ_rfa () (.cons rfl (.cons rfl (.cons rfl (.nil _)))) rfl
 ·intro l I1 R1 x4 gx s2 g3 st8 hb7
  refine J_block ?_
  refine J_region ?_
  refine JLp (T_loadw ty73 rfl) rfl B0 .none ?_
  refine JLp (T_move rfl) rfl (nofun) .none ?_
  refine JLp (T_conv rfl Try.underlying5 Try.underlying73) rfl (nofun) .none ?_
  refine JLp (T_xor rfl rfl) rfl (nofun) .none ?_
  refine JLp (T_mul rfl rfl) rfl (nofun) .none ?_
  refine JLn1 (T_store ty73 rfl (.mk rfl) (SetF.self (Lay.int _))) .none ?_
  refine JL_nil ?_
  refine KJ_nrm_blk ?_
  exact KJ_rq (IntKind.u64.wrap ((xorI .u64 s2 (IntKind.u64.wrap x4)) * 1099511628211)) () (inj hb7) rfl
 ·intro r9 g3
  refine KJ_nrm_then (KJ_J ?_)
  refine J_seq ?_
  refine J_region ?_
  refine JLp (T_loadw ty73 rfl) rfl B1 .none ?_
  refine JLp (T_loadw ty73 rfl) rfl B1 .none ?_
  replace h := bnd h; obtain ⟨x10, hx10, h⟩ := h
  refine JLp (T_shr rfl rfl hx10) rfl (nofun) .none ?_
  refine JLp (T_xor rfl rfl) rfl (nofun) .none ?_
  refine JLp (T_assign rfl) rfl (nofun) .none ?_
  refine JL_nil ?_
  refine KJ_nrm_then (KJ_J ?_)
  refine J_ret ?_
  obtain rfl := inj h
  exact KJ_retM1 (M := [Ent.mark r9]) (J := [Ent.box b1 (Rep.int .u64) so5]) () (marks.cons marks.nil) rfl Try.results88 (.tmp (.mk rfl) Rv.nil) rfl
end Go.Proofs.Ytogflgcngfghpaa
end
section
set_option maxHeartbeats 4000000
set_option linter.unusedVariables false
set_option linter.unusedSimpArgs false
namespace Go.Proofs.Ytogflgcngfghpaa
open Go.J
def f_checksum_Digest_1 (a1 : List Int) : Option (List Int) :=
 Option.map Prod.fst (α := List Int × Unit) (thenP (rangeW (σ := Unit) (ρ := Unit) (β := Int) (fun i13 x17 s1 => emitP x17 (some ([], Rd.next ()))) a1 0 ()) fun s1 => some ([], ()))
theorem c_checksum_Digest_1 {a1 : List Int} {xs : List Int} (h : f_checksum_Digest_1 a1 = some xs) : ItFn Try.prog 99 [(Rep.iptr (Rep.sl (Rep.int .u8) 1)).at a1] (Rep.int .u8) xs := by
 refine ItFn.mk Try.func99 rfl rfl Try.ntmps99 (by simp) fun l S D hR I O R hS => ?_
 unfold f_checksum_Digest_1 at h
 replace h := Option.map_eq_some_iff.1 h
 obtain ⟨⟨ys, u⟩, h, rfl⟩ := h
 replace hS : S (ys ++ []) O := by simpa using hS
 refine J_seq ?_
 refine J_region ?_
 refine JLp (T_load ty26 rfl) rfl (nofun) .none ?_
 refine JLp (T_len (ρ := (Rep.int .u8)) sl26 (.mk rfl)) rfl (nofun) .none ?_
 refine JLp (T_move rfl) rfl (nofun) .none ?_
 refine JL_nil ?_
 refine KJ_nrm_then (KJ_J ?_)
 replace h := thenP_some h
 obtain ⟨z5, o3, ho4, tl6, rfl, h⟩ := h
 rw [List.append_assoc] at hS
 refine J_cutw (out := o3) S (tl6 ++ []) (fun (s1 : Unit) => []) (fun s1 C => (C ++ R)) ?_ ?_
 ·refine J_block ?_
  refine J_lim (ρ := (Rep.int .u8)) (n := 1) (l := a1) (x := .tmp 5) (.mk rfl) fun hl => ?_
  refine J_rangeW ho4 (tl6 ++ []) S hS hl (fun i13 (s1 : Unit) => [(0, Pr.yield l), (5, (Rep.sl (Rep.int .u8) 1).at a1), (6, (Rep.int .i64).at (a1.length : Int)), (7, (Rep.int .i64).at i13)]) (fun i13 s1 C => (C ++ R)) (.cons rfl (.cons rfl (.cons rfl (.cons rfl (.nil _))))) rfl ?_ ?_
  ·intro s1 C10 hgo hS
   refine J_seq (J_region (JLp (T_lss rfl rfl) rfl (nofun) .none (JL_nil (KJ_nrm_then (KJ_J ?_)))))
   refine J_seq (J_test rfl (fun hp => absurd (of_decide_eq_true hp) (by omega)) (fun _ => J_exit (KJ_exit_then (KJ_exit_then (KJ_exit_here ?_)))))
   exact KJ_otw s1 hgo hS (.nil _) rfl
  ·intro i13 x17 s1 C10 st9 y11 zv12 hi14 hj15 hx18 hw16 hb7 hf8 hS
   refine J_seq (J_region (JLp (T_lss rfl rfl) rfl (nofun) .none (JL_nil (KJ_nrm_then (KJ_J ?_)))))
   refine J_seq (J_test rfl (fun _ => J_skip (KJ_nrm_then (KJ_J ?_))) (fun hp => absurd hj15 (of_decide_eq_false hp)))
   refine J_seq ?_
   refine J_block ?_
   refine J_seq ?_
   refine J_region ?_
   refine JLp (T_ix sl26 (.mk rfl) rfl hx18) rfl (nofun) .none ?_
   refine JLp (T_load ty5 rfl) rfl (nofun) .none ?_
   refine JLp (T_assign rfl) rfl (nofun) .none ?_
   refine JL_nil ?_
   refine KJ_nrm_then (KJ_J ?_)
   refine J_seq ?_
   refine J_region ?_
   refine JLp (T_move rfl) rfl (nofun) .none ?_
   refine JLp (T_move rfl) rfl (nofun) .none ?_
   replace hb7 := emitP_some hb7
   obtain ⟨ys19, rfl, hb7⟩ := hb7
   refine JLe (κ := C10) (T_yield (v := x17) (rest := ys19 ++ zv12) hR hS rfl (.mk rfl)) rfl .none fun q22 => ?_
   obtain ⟨⟨b20, C21⟩, hq221, hq222⟩ := q22
   refine JLp (T_not rfl) rfl (nofun) .none ?_
   refine JL_nil ?_
   refine KJ_nrm_then (KJ_J ?_)
   refine J_test rfl (fun hq23 => ?_) (fun hq23 => ?_)
   ·refine J_ret ?_
    refine KJ_ret_blk ?_
    refine KJ_ret_then ?_
    refine KJ_ret_then ?_
    refine KJ_ret_blk ?_
    refine KJ_ret_kq ?_
    exact KJ_reti rfl Try.results99 (.inr (hq222 (by simpa using hq23)))
   ·have hS := hq221 (by simpa using hq23)
    refine J_skip ?_
    refine KJ_nrm_blk ?_
    refine KJ_nrm_then (KJ_J ?_)
    refine J_region ?_
    refine JLp (T_addw rfl rfl hw16) rfl (nofun) .none ?_
    refine JLp (T_move rfl) rfl (nofun) .none ?_
    refine JL_nil ?_
    refine KJ_nrm_then ?_
    obtain ⟨rfl, rfl⟩ := injP hb7
    exact KJ_nxw () rfl hS (.cons rfl (.cons rfl (.cons rfl (.cons rfl (.nil _))))) rfl
 ·intro s1 C24 hs hS
  subst hs
  replace h : _ = some _ := h
  refine KJ_end_body ?_
  obtain ⟨rfl, _⟩ := injP h
  exact KJ_reti rfl Try.results99 (.inl hS)
end Go.Proofs.Ytogflgcngfghpaa
end
section
set_option maxHeartbeats 4000000
set_option linter.unusedVariables false
set_option linter.unusedSimpArgs false
namespace Go.Proofs.Ytogflgcngfghpaa
open Go.J
def f_checksum_Digest (a0 : List Int) : Option (Int) :=
 (f_checksum_Digest_1 a0).bind fun x1 => (f_checksum_digest x1).bind fun x2 => some x2
theorem c_checksum_Digest {a0 : List Int} {r : Int} (h : f_checksum_Digest a0 = some r) : Ct Try.prog 94 [(Rep.sl (Rep.int .u8) 1).at a0] [] (fun _ : Unit => (Rep.int .u64).at r) (fun _ => []) := by
 refine Ct.mk Try.func94 rfl Try.ntmps94 (by simp) fun I R => ?_
 refine J.drop0 ?_
 unfold f_checksum_Digest at h
 refine J_seq ?_
 refine J_region ?_
 refine JLe0 (T_box (ρ := (Rep.sl (Rep.int .u8) 1)) (.mk rfl)) rfl .none ?_
 refine JLp (T_assign rfl) rfl (nofun) .none ?_
 refine JL_nil ?_
 refine KJ_nrm_then (KJ_J ?_)
 refine J_seq ?_
 refine J_region ?_
 replace h := bnd h; obtain ⟨x1, hx1, h⟩ := h
 refine JLp (T_mkit (c_checksum_Digest_1 hx1) ⟨.mk rfl, trivial⟩) rfl (nofun) .none ?_
 replace h := bnd h; obtain ⟨x2, hx2, h⟩ := h
 refine JLe0 (T_call ⟨_, Try.func88, rfl, rfl⟩ (c_checksum_digest hx2) ⟨(.mk rfl), trivial⟩) rfl .none ?_
 refine JLp (T_assign rfl) rfl (nofun) .none ?_
 refine JL_nil ?_
 refine KJ_nrm_then (KJ_J ?_)
 refine J_ret ?_
 obtain rfl := inj h
 exact KJ_ret1' Try.results94 (.tmp (.mk rfl) Rv.nil) rfl rfl
end Go.Proofs.Ytogflgcngfghpaa
end
