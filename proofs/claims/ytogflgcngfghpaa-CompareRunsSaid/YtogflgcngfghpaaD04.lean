/- A part of the proof: types No condition. -/
import Derived.Test.YtogflgcngfghpaaProg
import Derived.Shelf.SlLaysF0
import Derived.Test.YtogflgcngfghpaaD03

/- types -/
section
set_option maxHeartbeats 4000000
set_option linter.unusedVariables false
set_option linter.unusedSimpArgs false
namespace Go.Proofs.Ytogflgcngfghpaa
open Go.J
structure api_Tree where
  mk ::
  Size : Int
  Leaf : Int
  Levels : List (List Int)
structure api_Message where
  mk ::
  Kind : Int
  From : Int
  To : Int
  Number : Int
  Value : Int
  Epoch : Int
  Values : List Int
  Body : List Int
structure api_Extent where
  mk ::
  Start : Int
  Count : Int
structure api_Walk where
  mk ::
  Tree : api_Tree
  Pending : List api_Extent
  Level : Int
  Found : List api_Extent
  Sent : Int
  Done : Bool
structure compare_walk where
  mk ::
  Walk : api_Walk
structure extent_end where
  mk ::
  at_ : Int
  list : Int
  step : Int
def p_api_Tree : api_Tree → Int × Int × List (List Int) × Unit := fun (s : api_Tree) => (s.Size, s.Leaf, s.Levels, ())
def u_api_Tree : Int × Int × List (List Int) × Unit → api_Tree := fun (x : Int × Int × List (List Int) × Unit) => (⟨x.1, x.2.1, x.2.2.1⟩ : api_Tree)
def c_api_Tree : Rep (Int × Int × List (List Int) × Unit) := (Rep.cons (Rep.int .i64) (Rep.cons (Rep.int .i64) (Rep.cons (Rep.sl (Rep.sl (Rep.int .u64) 1) 1) Rep.nilS)))
def r_api_Tree : Rep api_Tree := Rep.iso p_api_Tree c_api_Tree
theorem lay_api_Tree : r_api_Tree.Lay 3 true := Lay.iso (f := p_api_Tree) (π := c_api_Tree) (Lay.cons (Lay.int _) (Lay.cons (Lay.int _) (Lay.cons (Lay.sl _ _) Lay.nilS)))
theorem hf_api_Tree_Size : HasF r_api_Tree 0 (Rep.int .i64) api_Tree.Size := HasF.iso (f := p_api_Tree) (π := c_api_Tree) (HasF.head _ _)
theorem sf_api_Tree_Size : SetF r_api_Tree 0 (Rep.int .i64) (fun s y => { s with Size := y }) := SetF.iso (f := p_api_Tree) (g := u_api_Tree) (fun _ => rfl) (π := c_api_Tree) (SetF.head (m := 0) (Lay.int _))
theorem hf_api_Tree_Leaf : HasF r_api_Tree 1 (Rep.int .i64) api_Tree.Leaf := HasF.iso (f := p_api_Tree) (π := c_api_Tree) (HasF.tail (Lay.int _) (HasF.head _ _))
theorem sf_api_Tree_Leaf : SetF r_api_Tree 1 (Rep.int .i64) (fun s y => { s with Leaf := y }) := SetF.iso (f := p_api_Tree) (g := u_api_Tree) (fun _ => rfl) (π := c_api_Tree) (SetF.tail (Lay.int _) (SetF.head (m := 0) (Lay.int _)) (fun I v x h => by obtain ⟨u, cs, _, _, h⟩ := h; exact ⟨_, h⟩))
theorem hf_api_Tree_Levels : HasF r_api_Tree 2 (Rep.sl (Rep.sl (Rep.int .u64) 1) 1) api_Tree.Levels := HasF.iso (f := p_api_Tree) (π := c_api_Tree) (HasF.tail (Lay.int _) (HasF.tail (Lay.int _) (HasF.head _ _)))
theorem sf_api_Tree_Levels : SetF r_api_Tree 2 (Rep.sl (Rep.sl (Rep.int .u64) 1) 1) (fun s y => { s with Levels := y }) := SetF.iso (f := p_api_Tree) (g := u_api_Tree) (fun _ => rfl) (π := c_api_Tree) (SetF.tail (Lay.int _) (SetF.tail (Lay.int _) (SetF.head (m := 0) (Lay.sl _ _)) (fun I v x h => by obtain ⟨u, cs, _, _, h⟩ := h; exact ⟨_, h⟩)) (fun I v x h => by obtain ⟨u, cs, _, _, h⟩ := h; exact ⟨_, h⟩))
def p_api_Message : api_Message → Int × Int × Int × Int × Int × Int × List Int × List Int × Unit := fun (s : api_Message) => (s.Kind, s.From, s.To, s.Number, s.Value, s.Epoch, s.Values, s.Body, ())
def u_api_Message : Int × Int × Int × Int × Int × Int × List Int × List Int × Unit → api_Message := fun (x : Int × Int × Int × Int × Int × Int × List Int × List Int × Unit) => (⟨x.1, x.2.1, x.2.2.1, x.2.2.2.1, x.2.2.2.2.1, x.2.2.2.2.2.1, x.2.2.2.2.2.2.1, x.2.2.2.2.2.2.2.1⟩ : api_Message)
def c_api_Message : Rep (Int × Int × Int × Int × Int × Int × List Int × List Int × Unit) := (Rep.cons (Rep.int .i64) (Rep.cons (Rep.int .i64) (Rep.cons (Rep.int .i64) (Rep.cons (Rep.int .i64) (Rep.cons (Rep.int .i64) (Rep.cons (Rep.int .i64) (Rep.cons (Rep.sl (Rep.int .i64) 1) (Rep.cons (Rep.sl (Rep.int .u8) 1) Rep.nilS))))))))
def r_api_Message : Rep api_Message := Rep.iso p_api_Message c_api_Message
theorem lay_api_Message : r_api_Message.Lay 8 true := Lay.iso (f := p_api_Message) (π := c_api_Message) (Lay.cons (Lay.int _) (Lay.cons (Lay.int _) (Lay.cons (Lay.int _) (Lay.cons (Lay.int _) (Lay.cons (Lay.int _) (Lay.cons (Lay.int _) (Lay.cons (Lay.sl _ _) (Lay.cons (Lay.sl _ _) Lay.nilS))))))))
theorem hf_api_Message_Kind : HasF r_api_Message 0 (Rep.int .i64) api_Message.Kind := HasF.iso (f := p_api_Message) (π := c_api_Message) (HasF.head _ _)
theorem sf_api_Message_Kind : SetF r_api_Message 0 (Rep.int .i64) (fun s y => { s with Kind := y }) := SetF.iso (f := p_api_Message) (g := u_api_Message) (fun _ => rfl) (π := c_api_Message) (SetF.head (m := 0) (Lay.int _))
theorem hf_api_Message_From : HasF r_api_Message 1 (Rep.int .i64) api_Message.From := HasF.iso (f := p_api_Message) (π := c_api_Message) (HasF.tail (Lay.int _) (HasF.head _ _))
theorem sf_api_Message_From : SetF r_api_Message 1 (Rep.int .i64) (fun s y => { s with From := y }) := SetF.iso (f := p_api_Message) (g := u_api_Message) (fun _ => rfl) (π := c_api_Message) (SetF.tail (Lay.int _) (SetF.head (m := 0) (Lay.int _)) (fun I v x h => by obtain ⟨u, cs, _, _, h⟩ := h; exact ⟨_, h⟩))
theorem hf_api_Message_To : HasF r_api_Message 2 (Rep.int .i64) api_Message.To := HasF.iso (f := p_api_Message) (π := c_api_Message) (HasF.tail (Lay.int _) (HasF.tail (Lay.int _) (HasF.head _ _)))
theorem sf_api_Message_To : SetF r_api_Message 2 (Rep.int .i64) (fun s y => { s with To := y }) := SetF.iso (f := p_api_Message) (g := u_api_Message) (fun _ => rfl) (π := c_api_Message) (SetF.tail (Lay.int _) (SetF.tail (Lay.int _) (SetF.head (m := 0) (Lay.int _)) (fun I v x h => by obtain ⟨u, cs, _, _, h⟩ := h; exact ⟨_, h⟩)) (fun I v x h => by obtain ⟨u, cs, _, _, h⟩ := h; exact ⟨_, h⟩))
theorem hf_api_Message_Number : HasF r_api_Message 3 (Rep.int .i64) api_Message.Number := HasF.iso (f := p_api_Message) (π := c_api_Message) (HasF.tail (Lay.int _) (HasF.tail (Lay.int _) (HasF.tail (Lay.int _) (HasF.head _ _))))
theorem sf_api_Message_Number : SetF r_api_Message 3 (Rep.int .i64) (fun s y => { s with Number := y }) := SetF.iso (f := p_api_Message) (g := u_api_Message) (fun _ => rfl) (π := c_api_Message) (SetF.tail (Lay.int _) (SetF.tail (Lay.int _) (SetF.tail (Lay.int _) (SetF.head (m := 0) (Lay.int _)) (fun I v x h => by obtain ⟨u, cs, _, _, h⟩ := h; exact ⟨_, h⟩)) (fun I v x h => by obtain ⟨u, cs, _, _, h⟩ := h; exact ⟨_, h⟩)) (fun I v x h => by obtain ⟨u, cs, _, _, h⟩ := h; exact ⟨_, h⟩))
theorem hf_api_Message_Value : HasF r_api_Message 4 (Rep.int .i64) api_Message.Value := HasF.iso (f := p_api_Message) (π := c_api_Message) (HasF.tail (Lay.int _) (HasF.tail (Lay.int _) (HasF.tail (Lay.int _) (HasF.tail (Lay.int _) (HasF.head _ _)))))
theorem sf_api_Message_Value : SetF r_api_Message 4 (Rep.int .i64) (fun s y => { s with Value := y }) := SetF.iso (f := p_api_Message) (g := u_api_Message) (fun _ => rfl) (π := c_api_Message) (SetF.tail (Lay.int _) (SetF.tail (Lay.int _) (SetF.tail (Lay.int _) (SetF.tail (Lay.int _) (SetF.head (m := 0) (Lay.int _)) (fun I v x h => by obtain ⟨u, cs, _, _, h⟩ := h; exact ⟨_, h⟩)) (fun I v x h => by obtain ⟨u, cs, _, _, h⟩ := h; exact ⟨_, h⟩)) (fun I v x h => by obtain ⟨u, cs, _, _, h⟩ := h; exact ⟨_, h⟩)) (fun I v x h => by obtain ⟨u, cs, _, _, h⟩ := h; exact ⟨_, h⟩))
theorem hf_api_Message_Epoch : HasF r_api_Message 5 (Rep.int .i64) api_Message.Epoch := HasF.iso (f := p_api_Message) (π := c_api_Message) (HasF.tail (Lay.int _) (HasF.tail (Lay.int _) (HasF.tail (Lay.int _) (HasF.tail (Lay.int _) (HasF.tail (Lay.int _) (HasF.head _ _))))))
theorem sf_api_Message_Epoch : SetF r_api_Message 5 (Rep.int .i64) (fun s y => { s with Epoch := y }) := SetF.iso (f := p_api_Message) (g := u_api_Message) (fun _ => rfl) (π := c_api_Message) (SetF.tail (Lay.int _) (SetF.tail (Lay.int _) (SetF.tail (Lay.int _) (SetF.tail (Lay.int _) (SetF.tail (Lay.int _) (SetF.head (m := 0) (Lay.int _)) (fun I v x h => by obtain ⟨u, cs, _, _, h⟩ := h; exact ⟨_, h⟩)) (fun I v x h => by obtain ⟨u, cs, _, _, h⟩ := h; exact ⟨_, h⟩)) (fun I v x h => by obtain ⟨u, cs, _, _, h⟩ := h; exact ⟨_, h⟩)) (fun I v x h => by obtain ⟨u, cs, _, _, h⟩ := h; exact ⟨_, h⟩)) (fun I v x h => by obtain ⟨u, cs, _, _, h⟩ := h; exact ⟨_, h⟩))
theorem hf_api_Message_Values : HasF r_api_Message 6 (Rep.sl (Rep.int .i64) 1) api_Message.Values := HasF.iso (f := p_api_Message) (π := c_api_Message) (HasF.tail (Lay.int _) (HasF.tail (Lay.int _) (HasF.tail (Lay.int _) (HasF.tail (Lay.int _) (HasF.tail (Lay.int _) (HasF.tail (Lay.int _) (HasF.head _ _)))))))
theorem sf_api_Message_Values : SetF r_api_Message 6 (Rep.sl (Rep.int .i64) 1) (fun s y => { s with Values := y }) := SetF.iso (f := p_api_Message) (g := u_api_Message) (fun _ => rfl) (π := c_api_Message) (SetF.tail (Lay.int _) (SetF.tail (Lay.int _) (SetF.tail (Lay.int _) (SetF.tail (Lay.int _) (SetF.tail (Lay.int _) (SetF.tail (Lay.int _) (SetF.head (m := 0) (Lay.sl _ _)) (fun I v x h => by obtain ⟨u, cs, _, _, h⟩ := h; exact ⟨_, h⟩)) (fun I v x h => by obtain ⟨u, cs, _, _, h⟩ := h; exact ⟨_, h⟩)) (fun I v x h => by obtain ⟨u, cs, _, _, h⟩ := h; exact ⟨_, h⟩)) (fun I v x h => by obtain ⟨u, cs, _, _, h⟩ := h; exact ⟨_, h⟩)) (fun I v x h => by obtain ⟨u, cs, _, _, h⟩ := h; exact ⟨_, h⟩)) (fun I v x h => by obtain ⟨u, cs, _, _, h⟩ := h; exact ⟨_, h⟩))
theorem hf_api_Message_Body : HasF r_api_Message 7 (Rep.sl (Rep.int .u8) 1) api_Message.Body := HasF.iso (f := p_api_Message) (π := c_api_Message) (HasF.tail (Lay.int _) (HasF.tail (Lay.int _) (HasF.tail (Lay.int _) (HasF.tail (Lay.int _) (HasF.tail (Lay.int _) (HasF.tail (Lay.int _) (HasF.tail (Lay.sl _ _) (HasF.head _ _))))))))
theorem sf_api_Message_Body : SetF r_api_Message 7 (Rep.sl (Rep.int .u8) 1) (fun s y => { s with Body := y }) := SetF.iso (f := p_api_Message) (g := u_api_Message) (fun _ => rfl) (π := c_api_Message) (SetF.tail (Lay.int _) (SetF.tail (Lay.int _) (SetF.tail (Lay.int _) (SetF.tail (Lay.int _) (SetF.tail (Lay.int _) (SetF.tail (Lay.int _) (SetF.tail (Lay.sl _ _) (SetF.head (m := 0) (Lay.sl _ _)) (fun I v x h => by obtain ⟨u, cs, _, _, h⟩ := h; exact ⟨_, h⟩)) (fun I v x h => by obtain ⟨u, cs, _, _, h⟩ := h; exact ⟨_, h⟩)) (fun I v x h => by obtain ⟨u, cs, _, _, h⟩ := h; exact ⟨_, h⟩)) (fun I v x h => by obtain ⟨u, cs, _, _, h⟩ := h; exact ⟨_, h⟩)) (fun I v x h => by obtain ⟨u, cs, _, _, h⟩ := h; exact ⟨_, h⟩)) (fun I v x h => by obtain ⟨u, cs, _, _, h⟩ := h; exact ⟨_, h⟩)) (fun I v x h => by obtain ⟨u, cs, _, _, h⟩ := h; exact ⟨_, h⟩))
def p_api_Extent : api_Extent → Int × Int × Unit := fun (s : api_Extent) => (s.Start, s.Count, ())
def u_api_Extent : Int × Int × Unit → api_Extent := fun (x : Int × Int × Unit) => (⟨x.1, x.2.1⟩ : api_Extent)
def c_api_Extent : Rep (Int × Int × Unit) := (Rep.cons (Rep.int .i64) (Rep.cons (Rep.int .i64) Rep.nilS))
def r_api_Extent : Rep api_Extent := Rep.iso p_api_Extent c_api_Extent
theorem lay_api_Extent : r_api_Extent.Lay 2 true := Lay.iso (f := p_api_Extent) (π := c_api_Extent) (Lay.cons (Lay.int _) (Lay.cons (Lay.int _) Lay.nilS))
theorem hf_api_Extent_Start : HasF r_api_Extent 0 (Rep.int .i64) api_Extent.Start := HasF.iso (f := p_api_Extent) (π := c_api_Extent) (HasF.head _ _)
theorem sf_api_Extent_Start : SetF r_api_Extent 0 (Rep.int .i64) (fun s y => { s with Start := y }) := SetF.iso (f := p_api_Extent) (g := u_api_Extent) (fun _ => rfl) (π := c_api_Extent) (SetF.head (m := 0) (Lay.int _))
theorem hf_api_Extent_Count : HasF r_api_Extent 1 (Rep.int .i64) api_Extent.Count := HasF.iso (f := p_api_Extent) (π := c_api_Extent) (HasF.tail (Lay.int _) (HasF.head _ _))
theorem sf_api_Extent_Count : SetF r_api_Extent 1 (Rep.int .i64) (fun s y => { s with Count := y }) := SetF.iso (f := p_api_Extent) (g := u_api_Extent) (fun _ => rfl) (π := c_api_Extent) (SetF.tail (Lay.int _) (SetF.head (m := 0) (Lay.int _)) (fun I v x h => by obtain ⟨u, cs, _, _, h⟩ := h; exact ⟨_, h⟩))
def p_api_Walk : api_Walk → api_Tree × List api_Extent × Int × List api_Extent × Int × Bool × Unit := fun (s : api_Walk) => (s.Tree, s.Pending, s.Level, s.Found, s.Sent, s.Done, ())
def u_api_Walk : api_Tree × List api_Extent × Int × List api_Extent × Int × Bool × Unit → api_Walk := fun (x : api_Tree × List api_Extent × Int × List api_Extent × Int × Bool × Unit) => (⟨x.1, x.2.1, x.2.2.1, x.2.2.2.1, x.2.2.2.2.1, x.2.2.2.2.2.1⟩ : api_Walk)
def c_api_Walk : Rep (api_Tree × List api_Extent × Int × List api_Extent × Int × Bool × Unit) := (Rep.cons r_api_Tree (Rep.cons (Rep.sl r_api_Extent 2) (Rep.cons (Rep.int .i64) (Rep.cons (Rep.sl r_api_Extent 2) (Rep.cons (Rep.int .i64) (Rep.cons Rep.bool Rep.nilS))))))
def r_api_Walk : Rep api_Walk := Rep.iso p_api_Walk c_api_Walk
theorem lay_api_Walk : r_api_Walk.Lay 8 true := Lay.iso (f := p_api_Walk) (π := c_api_Walk) (Lay.cons lay_api_Tree (Lay.cons (Lay.sl _ _) (Lay.cons (Lay.int _) (Lay.cons (Lay.sl _ _) (Lay.cons (Lay.int _) (Lay.cons Lay.bool Lay.nilS))))))
theorem hf_api_Walk_Tree : HasF r_api_Walk 0 r_api_Tree api_Walk.Tree := HasF.iso (f := p_api_Walk) (π := c_api_Walk) (HasF.head _ _)
theorem sf_api_Walk_Tree : SetF r_api_Walk 0 r_api_Tree (fun s y => { s with Tree := y }) := SetF.iso (f := p_api_Walk) (g := u_api_Walk) (fun _ => rfl) (π := c_api_Walk) (SetF.head (m := 0) lay_api_Tree)
theorem hf_api_Walk_Pending : HasF r_api_Walk 3 (Rep.sl r_api_Extent 2) api_Walk.Pending := HasF.iso (f := p_api_Walk) (π := c_api_Walk) (HasF.tail lay_api_Tree (HasF.head _ _))
theorem sf_api_Walk_Pending : SetF r_api_Walk 3 (Rep.sl r_api_Extent 2) (fun s y => { s with Pending := y }) := SetF.iso (f := p_api_Walk) (g := u_api_Walk) (fun _ => rfl) (π := c_api_Walk) (SetF.tail lay_api_Tree (SetF.head (m := 0) (Lay.sl _ _)) (fun I v x h => by obtain ⟨u, cs, _, _, h⟩ := h; exact ⟨_, h⟩))
theorem hf_api_Walk_Level : HasF r_api_Walk 4 (Rep.int .i64) api_Walk.Level := HasF.iso (f := p_api_Walk) (π := c_api_Walk) (HasF.tail lay_api_Tree (HasF.tail (Lay.sl _ _) (HasF.head _ _)))
theorem sf_api_Walk_Level : SetF r_api_Walk 4 (Rep.int .i64) (fun s y => { s with Level := y }) := SetF.iso (f := p_api_Walk) (g := u_api_Walk) (fun _ => rfl) (π := c_api_Walk) (SetF.tail lay_api_Tree (SetF.tail (Lay.sl _ _) (SetF.head (m := 0) (Lay.int _)) (fun I v x h => by obtain ⟨u, cs, _, _, h⟩ := h; exact ⟨_, h⟩)) (fun I v x h => by obtain ⟨u, cs, _, _, h⟩ := h; exact ⟨_, h⟩))
theorem hf_api_Walk_Found : HasF r_api_Walk 5 (Rep.sl r_api_Extent 2) api_Walk.Found := HasF.iso (f := p_api_Walk) (π := c_api_Walk) (HasF.tail lay_api_Tree (HasF.tail (Lay.sl _ _) (HasF.tail (Lay.int _) (HasF.head _ _))))
theorem sf_api_Walk_Found : SetF r_api_Walk 5 (Rep.sl r_api_Extent 2) (fun s y => { s with Found := y }) := SetF.iso (f := p_api_Walk) (g := u_api_Walk) (fun _ => rfl) (π := c_api_Walk) (SetF.tail lay_api_Tree (SetF.tail (Lay.sl _ _) (SetF.tail (Lay.int _) (SetF.head (m := 0) (Lay.sl _ _)) (fun I v x h => by obtain ⟨u, cs, _, _, h⟩ := h; exact ⟨_, h⟩)) (fun I v x h => by obtain ⟨u, cs, _, _, h⟩ := h; exact ⟨_, h⟩)) (fun I v x h => by obtain ⟨u, cs, _, _, h⟩ := h; exact ⟨_, h⟩))
theorem hf_api_Walk_Sent : HasF r_api_Walk 6 (Rep.int .i64) api_Walk.Sent := HasF.iso (f := p_api_Walk) (π := c_api_Walk) (HasF.tail lay_api_Tree (HasF.tail (Lay.sl _ _) (HasF.tail (Lay.int _) (HasF.tail (Lay.sl _ _) (HasF.head _ _)))))
theorem sf_api_Walk_Sent : SetF r_api_Walk 6 (Rep.int .i64) (fun s y => { s with Sent := y }) := SetF.iso (f := p_api_Walk) (g := u_api_Walk) (fun _ => rfl) (π := c_api_Walk) (SetF.tail lay_api_Tree (SetF.tail (Lay.sl _ _) (SetF.tail (Lay.int _) (SetF.tail (Lay.sl _ _) (SetF.head (m := 0) (Lay.int _)) (fun I v x h => by obtain ⟨u, cs, _, _, h⟩ := h; exact ⟨_, h⟩)) (fun I v x h => by obtain ⟨u, cs, _, _, h⟩ := h; exact ⟨_, h⟩)) (fun I v x h => by obtain ⟨u, cs, _, _, h⟩ := h; exact ⟨_, h⟩)) (fun I v x h => by obtain ⟨u, cs, _, _, h⟩ := h; exact ⟨_, h⟩))
theorem hf_api_Walk_Done : HasF r_api_Walk 7 Rep.bool api_Walk.Done := HasF.iso (f := p_api_Walk) (π := c_api_Walk) (HasF.tail lay_api_Tree (HasF.tail (Lay.sl _ _) (HasF.tail (Lay.int _) (HasF.tail (Lay.sl _ _) (HasF.tail (Lay.int _) (HasF.head _ _))))))
theorem sf_api_Walk_Done : SetF r_api_Walk 7 Rep.bool (fun s y => { s with Done := y }) := SetF.iso (f := p_api_Walk) (g := u_api_Walk) (fun _ => rfl) (π := c_api_Walk) (SetF.tail lay_api_Tree (SetF.tail (Lay.sl _ _) (SetF.tail (Lay.int _) (SetF.tail (Lay.sl _ _) (SetF.tail (Lay.int _) (SetF.head (m := 0) Lay.bool) (fun I v x h => by obtain ⟨u, cs, _, _, h⟩ := h; exact ⟨_, h⟩)) (fun I v x h => by obtain ⟨u, cs, _, _, h⟩ := h; exact ⟨_, h⟩)) (fun I v x h => by obtain ⟨u, cs, _, _, h⟩ := h; exact ⟨_, h⟩)) (fun I v x h => by obtain ⟨u, cs, _, _, h⟩ := h; exact ⟨_, h⟩)) (fun I v x h => by obtain ⟨u, cs, _, _, h⟩ := h; exact ⟨_, h⟩))
def p_compare_walk : compare_walk → api_Walk × Unit := fun (s : compare_walk) => (s.Walk, ())
def u_compare_walk : api_Walk × Unit → compare_walk := fun (x : api_Walk × Unit) => (⟨x.1⟩ : compare_walk)
def c_compare_walk : Rep (api_Walk × Unit) := (Rep.cons r_api_Walk Rep.nilS)
def r_compare_walk : Rep compare_walk := Rep.iso p_compare_walk c_compare_walk
theorem lay_compare_walk : r_compare_walk.Lay 8 true := Lay.iso (f := p_compare_walk) (π := c_compare_walk) (Lay.cons lay_api_Walk Lay.nilS)
theorem hf_compare_walk_Walk : HasF r_compare_walk 0 r_api_Walk compare_walk.Walk := HasF.iso (f := p_compare_walk) (π := c_compare_walk) (HasF.head _ _)
theorem sf_compare_walk_Walk : SetF r_compare_walk 0 r_api_Walk (fun s y => { s with Walk := y }) := SetF.iso (f := p_compare_walk) (g := u_compare_walk) (fun _ => rfl) (π := c_compare_walk) (SetF.head (m := 0) lay_api_Walk)
def p_extent_end : extent_end → Int × Int × Int × Unit := fun (s : extent_end) => (s.at_, s.list, s.step, ())
def u_extent_end : Int × Int × Int × Unit → extent_end := fun (x : Int × Int × Int × Unit) => (⟨x.1, x.2.1, x.2.2.1⟩ : extent_end)
def c_extent_end : Rep (Int × Int × Int × Unit) := (Rep.cons (Rep.int .i64) (Rep.cons (Rep.int .i64) (Rep.cons (Rep.int .i64) Rep.nilS)))
def r_extent_end : Rep extent_end := Rep.iso p_extent_end c_extent_end
theorem lay_extent_end : r_extent_end.Lay 3 true := Lay.iso (f := p_extent_end) (π := c_extent_end) (Lay.cons (Lay.int _) (Lay.cons (Lay.int _) (Lay.cons (Lay.int _) Lay.nilS)))
theorem hf_extent_end_at_ : HasF r_extent_end 0 (Rep.int .i64) extent_end.at_ := HasF.iso (f := p_extent_end) (π := c_extent_end) (HasF.head _ _)
theorem sf_extent_end_at_ : SetF r_extent_end 0 (Rep.int .i64) (fun s y => { s with at_ := y }) := SetF.iso (f := p_extent_end) (g := u_extent_end) (fun _ => rfl) (π := c_extent_end) (SetF.head (m := 0) (Lay.int _))
theorem hf_extent_end_list : HasF r_extent_end 1 (Rep.int .i64) extent_end.list := HasF.iso (f := p_extent_end) (π := c_extent_end) (HasF.tail (Lay.int _) (HasF.head _ _))
theorem sf_extent_end_list : SetF r_extent_end 1 (Rep.int .i64) (fun s y => { s with list := y }) := SetF.iso (f := p_extent_end) (g := u_extent_end) (fun _ => rfl) (π := c_extent_end) (SetF.tail (Lay.int _) (SetF.head (m := 0) (Lay.int _)) (fun I v x h => by obtain ⟨u, cs, _, _, h⟩ := h; exact ⟨_, h⟩))
theorem hf_extent_end_step : HasF r_extent_end 2 (Rep.int .i64) extent_end.step := HasF.iso (f := p_extent_end) (π := c_extent_end) (HasF.tail (Lay.int _) (HasF.tail (Lay.int _) (HasF.head _ _)))
theorem sf_extent_end_step : SetF r_extent_end 2 (Rep.int .i64) (fun s y => { s with step := y }) := SetF.iso (f := p_extent_end) (g := u_extent_end) (fun _ => rfl) (π := c_extent_end) (SetF.tail (Lay.int _) (SetF.tail (Lay.int _) (SetF.head (m := 0) (Lay.int _)) (fun I v x h => by obtain ⟨u, cs, _, _, h⟩ := h; exact ⟨_, h⟩)) (fun I v x h => by obtain ⟨u, cs, _, _, h⟩ := h; exact ⟨_, h⟩))
theorem ty3 : Ty Try.prog 3 (Rep.int .i64) 1 false := ⟨⟨_, inf Try.type3, rfl⟩, ⟨_, Try.underlying3, rfl⟩, (Lay.int _)⟩
theorem z3 : Zero Try.prog 3 (Rep.int .i64) 0 := Zero.int (inf Try.type3) rfl
theorem ty73 : Ty Try.prog 73 (Rep.int .u64) 1 false := ⟨⟨_, inf Try.type73, rfl⟩, ⟨_, Try.underlying73, rfl⟩, (Lay.int _)⟩
theorem z73 : Zero Try.prog 73 (Rep.int .u64) 0 := Zero.int (inf Try.type73) rfl
theorem ty67 : Ty Try.prog 67 (Rep.sl (Rep.int .u64) 1) 1 false := ⟨⟨_, inf Try.type67, rfl⟩, ⟨_, Try.underlying67, rfl⟩, (Lay.sl _ _)⟩
theorem z67 : Zero Try.prog 67 (Rep.sl (Rep.int .u64) 1) [] := Zero.sl (inf Try.type67) rfl
theorem zv67 : Zero Try.prog 67 Rep.slv (.slice none 0 0) := Zero.slv (inf Try.type67) rfl
theorem tv67 : Ty Try.prog 67 Rep.slv 1 false := ⟨⟨_, inf Try.type67, rfl⟩, ⟨_, Try.underlying67, rfl⟩, Lay.slv⟩
theorem sl67 : Sl Try.prog 67 73 1 8 := ⟨Try.underlying67, ⟨_, _, inf Try.type73, rfl, rfl, rfl, rfl⟩, by decide⟩
theorem ty22 : Ty Try.prog 22 (Rep.sl (Rep.sl (Rep.int .u64) 1) 1) 1 false := ⟨⟨_, inf Try.type22, rfl⟩, ⟨_, Try.underlying22, rfl⟩, (Lay.sl _ _)⟩
theorem z22 : Zero Try.prog 22 (Rep.sl (Rep.sl (Rep.int .u64) 1) 1) [] := Zero.sl (inf Try.type22) rfl
theorem zv22 : Zero Try.prog 22 Rep.slv (.slice none 0 0) := Zero.slv (inf Try.type22) rfl
theorem tv22 : Ty Try.prog 22 Rep.slv 1 false := ⟨⟨_, inf Try.type22, rfl⟩, ⟨_, Try.underlying22, rfl⟩, Lay.slv⟩
theorem sl22 : Sl Try.prog 22 67 1 24 := ⟨Try.underlying22, ⟨_, _, inf Try.type67, rfl, rfl, rfl, rfl⟩, by decide⟩
theorem ty24 : Ty Try.prog 24 r_api_Tree 3 true := ⟨⟨_, inf Try.type24, rfl⟩, ⟨_, Try.underlying24, rfl⟩, lay_api_Tree⟩
theorem z24 : Zero Try.prog 24 r_api_Tree (⟨0, 0, []⟩ : api_Tree) := Go.J.Zero.mk (inf Try.type24) rfl fun _ => (show c_api_Tree.rd _ _ (p_api_Tree _) from ⟨(.int .i64 0), #[(.int .i64 0), (.slice none 0 0)], rfl, ⟨(.int .i64 0), #[(.slice none 0 0)], rfl, ⟨(.slice none 0 0), #[], nil_rd, rfl, rfl⟩, rfl⟩, rfl⟩)
theorem fo24_0 : FOff Try.prog 24 0 0 := ⟨_, _, _, Try.underlying24, rfl, rfl, inf Try.type3, by decide⟩
theorem fo24_1 : FOff Try.prog 24 1 1 := ⟨_, _, _, Try.underlying24, rfl, rfl, inf Try.type3, by decide⟩
theorem fo24_2 : FOff Try.prog 24 2 2 := ⟨_, _, _, Try.underlying24, rfl, rfl, inf Try.type22, by decide⟩
theorem fl24_0 : FlOff Try.prog 24 0 0 3 := ⟨_, _, Try.underlying24, rfl, rfl, rfl⟩
theorem fl24_1 : FlOff Try.prog 24 1 1 3 := ⟨_, _, Try.underlying24, rfl, rfl, rfl⟩
theorem fl24_2 : FlOff Try.prog 24 2 2 22 := ⟨_, _, Try.underlying24, rfl, rfl, rfl⟩
theorem bd24 : Bd Try.prog 24 #[(0, 1), (1, 1), (2, 1)] := ⟨_, Try.underlying24, fun w => by simp [Try.sizeOf3, Try.sizeOf22]⟩
theorem ty4 : Ty Try.prog 4 Rep.bool 1 false := ⟨⟨_, inf Try.type4, rfl⟩, ⟨_, Try.underlying4, rfl⟩, Lay.bool⟩
theorem z4 : Zero Try.prog 4 Rep.bool false := Zero.bool (inf Try.type4) rfl
theorem ty25 : Ty Try.prog 25 (Rep.sl (Rep.int .i64) 1) 1 false := ⟨⟨_, inf Try.type25, rfl⟩, ⟨_, Try.underlying25, rfl⟩, (Lay.sl _ _)⟩
theorem z25 : Zero Try.prog 25 (Rep.sl (Rep.int .i64) 1) [] := Zero.sl (inf Try.type25) rfl
theorem zv25 : Zero Try.prog 25 Rep.slv (.slice none 0 0) := Zero.slv (inf Try.type25) rfl
theorem tv25 : Ty Try.prog 25 Rep.slv 1 false := ⟨⟨_, inf Try.type25, rfl⟩, ⟨_, Try.underlying25, rfl⟩, Lay.slv⟩
theorem sl25 : Sl Try.prog 25 3 1 8 := ⟨Try.underlying25, ⟨_, _, inf Try.type3, rfl, rfl, rfl, rfl⟩, by decide⟩
theorem ty5 : Ty Try.prog 5 (Rep.int .u8) 1 false := ⟨⟨_, inf Try.type5, rfl⟩, ⟨_, Try.underlying5, rfl⟩, (Lay.int _)⟩
theorem z5 : Zero Try.prog 5 (Rep.int .u8) 0 := Zero.int (inf Try.type5) rfl
theorem ty26 : Ty Try.prog 26 (Rep.sl (Rep.int .u8) 1) 1 false := ⟨⟨_, inf Try.type26, rfl⟩, ⟨_, Try.underlying26, rfl⟩, (Lay.sl _ _)⟩
theorem z26 : Zero Try.prog 26 (Rep.sl (Rep.int .u8) 1) [] := Zero.sl (inf Try.type26) rfl
theorem zv26 : Zero Try.prog 26 Rep.slv (.slice none 0 0) := Zero.slv (inf Try.type26) rfl
theorem tv26 : Ty Try.prog 26 Rep.slv 1 false := ⟨⟨_, inf Try.type26, rfl⟩, ⟨_, Try.underlying26, rfl⟩, Lay.slv⟩
theorem sl26 : Sl Try.prog 26 5 1 1 := ⟨Try.underlying26, ⟨_, _, inf Try.type5, rfl, rfl, rfl, rfl⟩, by decide⟩
theorem ty28 : Ty Try.prog 28 r_api_Message 8 true := ⟨⟨_, inf Try.type28, rfl⟩, ⟨_, Try.underlying28, rfl⟩, lay_api_Message⟩
theorem z28 : Zero Try.prog 28 r_api_Message (⟨0, 0, 0, 0, 0, 0, [], []⟩ : api_Message) := Go.J.Zero.mk (inf Try.type28) rfl fun _ => (show c_api_Message.rd _ _ (p_api_Message _) from ⟨(.int .i64 0), #[(.int .i64 0), (.int .i64 0), (.int .i64 0), (.int .i64 0), (.int .i64 0), (.slice none 0 0), (.slice none 0 0)], rfl, ⟨(.int .i64 0), #[(.int .i64 0), (.int .i64 0), (.int .i64 0), (.int .i64 0), (.slice none 0 0), (.slice none 0 0)], rfl, ⟨(.int .i64 0), #[(.int .i64 0), (.int .i64 0), (.int .i64 0), (.slice none 0 0), (.slice none 0 0)], rfl, ⟨(.int .i64 0), #[(.int .i64 0), (.int .i64 0), (.slice none 0 0), (.slice none 0 0)], rfl, ⟨(.int .i64 0), #[(.int .i64 0), (.slice none 0 0), (.slice none 0 0)], rfl, ⟨(.int .i64 0), #[(.slice none 0 0), (.slice none 0 0)], rfl, ⟨(.slice none 0 0), #[(.slice none 0 0)], nil_rd, ⟨(.slice none 0 0), #[], nil_rd, rfl, rfl⟩, rfl⟩, rfl⟩, rfl⟩, rfl⟩, rfl⟩, rfl⟩, rfl⟩)
theorem fo28_0 : FOff Try.prog 28 0 0 := ⟨_, _, _, Try.underlying28, rfl, rfl, inf Try.type3, by decide⟩
theorem fo28_1 : FOff Try.prog 28 1 1 := ⟨_, _, _, Try.underlying28, rfl, rfl, inf Try.type3, by decide⟩
theorem fo28_2 : FOff Try.prog 28 2 2 := ⟨_, _, _, Try.underlying28, rfl, rfl, inf Try.type3, by decide⟩
theorem fo28_3 : FOff Try.prog 28 3 3 := ⟨_, _, _, Try.underlying28, rfl, rfl, inf Try.type3, by decide⟩
theorem fo28_4 : FOff Try.prog 28 4 4 := ⟨_, _, _, Try.underlying28, rfl, rfl, inf Try.type3, by decide⟩
theorem fo28_5 : FOff Try.prog 28 5 5 := ⟨_, _, _, Try.underlying28, rfl, rfl, inf Try.type3, by decide⟩
theorem fo28_6 : FOff Try.prog 28 6 6 := ⟨_, _, _, Try.underlying28, rfl, rfl, inf Try.type25, by decide⟩
theorem fo28_7 : FOff Try.prog 28 7 7 := ⟨_, _, _, Try.underlying28, rfl, rfl, inf Try.type26, by decide⟩
theorem fl28_0 : FlOff Try.prog 28 0 0 3 := ⟨_, _, Try.underlying28, rfl, rfl, rfl⟩
theorem fl28_1 : FlOff Try.prog 28 1 1 3 := ⟨_, _, Try.underlying28, rfl, rfl, rfl⟩
theorem fl28_2 : FlOff Try.prog 28 2 2 3 := ⟨_, _, Try.underlying28, rfl, rfl, rfl⟩
theorem fl28_3 : FlOff Try.prog 28 3 3 3 := ⟨_, _, Try.underlying28, rfl, rfl, rfl⟩
theorem fl28_4 : FlOff Try.prog 28 4 4 3 := ⟨_, _, Try.underlying28, rfl, rfl, rfl⟩
theorem fl28_5 : FlOff Try.prog 28 5 5 3 := ⟨_, _, Try.underlying28, rfl, rfl, rfl⟩
theorem fl28_6 : FlOff Try.prog 28 6 6 25 := ⟨_, _, Try.underlying28, rfl, rfl, rfl⟩
theorem fl28_7 : FlOff Try.prog 28 7 7 26 := ⟨_, _, Try.underlying28, rfl, rfl, rfl⟩
theorem bd28 : Bd Try.prog 28 #[(0, 1), (1, 1), (2, 1), (3, 1), (4, 1), (5, 1), (6, 1), (7, 1)] := ⟨_, Try.underlying28, fun w => by simp [Try.sizeOf3, Try.sizeOf25, Try.sizeOf26]⟩
theorem ty32 : Ty Try.prog 32 (Rep.int .i64) 1 false := ⟨⟨_, inf Try.type32, rfl⟩, ⟨_, Try.underlying32, rfl⟩, (Lay.int _)⟩
theorem z32 : Zero Try.prog 32 (Rep.int .i64) 0 := Zero.int (inf Try.type32) rfl
theorem ty154 : Ty Try.prog 154 (Rep.iter Try.prog (Rep.int .u8)) 1 false := ⟨⟨_, inf Try.type154, rfl⟩, ⟨_, Try.underlying154, rfl⟩, Lay.iter⟩
theorem ty153 : Ty Try.prog 153 (Rep.arr (Rep.int .u8) 1 16) 16 true := ⟨⟨_, inf Try.type153, rfl⟩, ⟨_, Try.underlying153, rfl⟩, (Lay.arr (Lay.int _))⟩
theorem ar153 : Ar Try.prog 153 5 1 16 := ⟨Try.underlying153, _, inf Try.type5, rfl⟩
theorem z153 : Zero Try.prog 153 (Rep.arr (Rep.int .u8) 1 16) (List.replicate 16 0) := Zero.arr1 (v := .int .u8 0) (inf Try.type153) rfl rfl (fun _ => rfl)
theorem ty140 : Ty Try.prog 140 (Rep.fn2 Try.prog (Rep.int .u64) (Rep.int .u64) (Rep.int .u64)) 1 false := ⟨⟨_, inf Try.type140, rfl⟩, ⟨_, Try.underlying140, rfl⟩, Lay.fn2⟩
theorem ty121 : Ty Try.prog 121 (Rep.fn2 Try.prog (Rep.sl (Rep.int .u64) 1) (Rep.sl (Rep.int .u64) 1) Rep.bool) 1 false := ⟨⟨_, inf Try.type121, rfl⟩, ⟨_, Try.underlying121, rfl⟩, Lay.fn2⟩
theorem ty82 : Ty Try.prog 82 (Rep.iter Try.prog (Rep.sl (Rep.int .i64) 1)) 1 false := ⟨⟨_, inf Try.type82, rfl⟩, ⟨_, Try.underlying82, rfl⟩, Lay.iter⟩
theorem ty62 : Ty Try.prog 62 r_api_Extent 2 true := ⟨⟨_, inf Try.type62, rfl⟩, ⟨_, Try.underlying62, rfl⟩, lay_api_Extent⟩
theorem z62 : Zero Try.prog 62 r_api_Extent (⟨0, 0⟩ : api_Extent) := Go.J.Zero.mk (inf Try.type62) rfl fun _ => (show c_api_Extent.rd _ _ (p_api_Extent _) from ⟨(.int .i64 0), #[(.int .i64 0)], rfl, ⟨(.int .i64 0), #[], rfl, rfl, rfl⟩, rfl⟩)
theorem fo62_0 : FOff Try.prog 62 0 0 := ⟨_, _, _, Try.underlying62, rfl, rfl, inf Try.type3, by decide⟩
theorem fo62_1 : FOff Try.prog 62 1 1 := ⟨_, _, _, Try.underlying62, rfl, rfl, inf Try.type3, by decide⟩
theorem fl62_0 : FlOff Try.prog 62 0 0 3 := ⟨_, _, Try.underlying62, rfl, rfl, rfl⟩
theorem fl62_1 : FlOff Try.prog 62 1 1 3 := ⟨_, _, Try.underlying62, rfl, rfl, rfl⟩
def eq_api_Extent (x y : api_Extent) : Bool := x.Start == y.Start && x.Count == y.Count
theorem form_api_Extent {I : Imm} {u : Go.Value} {x : api_Extent} (h : r_api_Extent.rd I u x) : u = .agg #[.int .i64 x.Start, .int .i64 x.Count] := by
  obtain ⟨u0, c0, h0, ⟨u1, c1, h1, hz, k1⟩, k0⟩ := h
  have h0 : u0 = (.int .i64 x.Start) := h0
  have h1 : u1 = (.int .i64 x.Count) := h1
  have hz : Go.Value.agg c1 = .agg #[] := hz
  simp only [Go.Value.agg.injEq] at hz k1
  subst hz h0 h1
  subst k1
  simp [k0, Go.Value.cells]
theorem eqok62 : EqOK Try.prog 62 r_api_Extent eq_api_Extent := ⟨Try.eqGuardType62, fun I u v x y w hu hv => by
  rw [form_api_Extent hu, form_api_Extent hv]
  refine ⟨_, _, rfl, rfl, ?_⟩
  have hS : Try.prog.underlying 62 = some (.struct (Try.prog.fieldsOf 62)) := by simp only [Go.Program.fieldsOf, Try.underlying62]
  rw [show (10000 : Nat) = 9999 + 1 from rfl, Go.run_equalIn_agg w 9999 62 _ _ hS Try.stoodInHeld62]
  simp only [Go.Program.fieldsOf, Try.underlying62]
  simp [Go.Op.eqFields, Go.part, Try.isAgg3, Go.run_equalIn_int w 9998 3 .i64 .i64 _ _ Try.underlying3]


  all_goals simp only [eq_api_Extent]
  by_cases q0 : x.Start = y.Start <;> by_cases q1 : x.Count = y.Count <;> simp [q0, q1, Go.run_equalIn_int w 9998 3 .i64 .i64 _ _ Try.underlying3]⟩
theorem bd62 : Bd Try.prog 62 #[(0, 1), (1, 1)] := ⟨_, Try.underlying62, fun w => by simp [Try.sizeOf3]⟩
theorem ty39 : Ty Try.prog 39 (Rep.sl r_api_Extent 2) 1 false := ⟨⟨_, inf Try.type39, rfl⟩, ⟨_, Try.underlying39, rfl⟩, (Lay.sl _ _)⟩
theorem z39 : Zero Try.prog 39 (Rep.sl r_api_Extent 2) [] := Zero.sl (inf Try.type39) rfl
theorem zv39 : Zero Try.prog 39 Rep.slv (.slice none 0 0) := Zero.slv (inf Try.type39) rfl
theorem tv39 : Ty Try.prog 39 Rep.slv 1 false := ⟨⟨_, inf Try.type39, rfl⟩, ⟨_, Try.underlying39, rfl⟩, Lay.slv⟩
theorem sl39 : Sl Try.prog 39 62 2 16 := ⟨Try.underlying39, ⟨_, _, inf Try.type62, rfl, rfl, rfl, rfl⟩, by decide⟩
theorem ty87 : Ty Try.prog 87 (Rep.iter Try.prog (Rep.int .i64)) 1 false := ⟨⟨_, inf Try.type87, rfl⟩, ⟨_, Try.underlying87, rfl⟩, Lay.iter⟩
theorem ty41 : Ty Try.prog 41 r_api_Walk 8 true := ⟨⟨_, inf Try.type41, rfl⟩, ⟨_, Try.underlying41, rfl⟩, lay_api_Walk⟩
theorem z41 : Zero Try.prog 41 r_api_Walk (⟨(⟨0, 0, []⟩ : api_Tree), [], 0, [], 0, false⟩ : api_Walk) := Go.J.Zero.mk (inf Try.type41) rfl fun _ => (show c_api_Walk.rd _ _ (p_api_Walk _) from ⟨.agg #[(.int .i64 0), (.int .i64 0), (.slice none 0 0)], #[(.slice none 0 0), (.int .i64 0), (.slice none 0 0), (.int .i64 0), (.bool false)], ⟨(.int .i64 0), #[(.int .i64 0), (.slice none 0 0)], rfl, ⟨(.int .i64 0), #[(.slice none 0 0)], rfl, ⟨(.slice none 0 0), #[], nil_rd, rfl, rfl⟩, rfl⟩, rfl⟩, ⟨(.slice none 0 0), #[(.int .i64 0), (.slice none 0 0), (.int .i64 0), (.bool false)], nil_rd, ⟨(.int .i64 0), #[(.slice none 0 0), (.int .i64 0), (.bool false)], rfl, ⟨(.slice none 0 0), #[(.int .i64 0), (.bool false)], nil_rd, ⟨(.int .i64 0), #[(.bool false)], rfl, ⟨(.bool false), #[], rfl, rfl, rfl⟩, rfl⟩, rfl⟩, rfl⟩, rfl⟩, rfl⟩)
theorem fo41_0 : FOff Try.prog 41 0 0 := ⟨_, _, _, Try.underlying41, rfl, rfl, inf Try.type24, by decide⟩
theorem fo41_1 : FOff Try.prog 41 1 3 := ⟨_, _, _, Try.underlying41, rfl, rfl, inf Try.type39, by decide⟩
theorem fo41_2 : FOff Try.prog 41 2 4 := ⟨_, _, _, Try.underlying41, rfl, rfl, inf Try.type3, by decide⟩
theorem fo41_3 : FOff Try.prog 41 3 5 := ⟨_, _, _, Try.underlying41, rfl, rfl, inf Try.type39, by decide⟩
theorem fo41_4 : FOff Try.prog 41 4 6 := ⟨_, _, _, Try.underlying41, rfl, rfl, inf Try.type3, by decide⟩
theorem fo41_5 : FOff Try.prog 41 5 7 := ⟨_, _, _, Try.underlying41, rfl, rfl, inf Try.type4, by decide⟩
theorem fl41_0 : FlOff Try.prog 41 0 0 24 := ⟨_, _, Try.underlying41, rfl, rfl, rfl⟩
theorem fl41_1 : FlOff Try.prog 41 1 3 39 := ⟨_, _, Try.underlying41, rfl, rfl, rfl⟩
theorem fl41_2 : FlOff Try.prog 41 2 4 3 := ⟨_, _, Try.underlying41, rfl, rfl, rfl⟩
theorem fl41_3 : FlOff Try.prog 41 3 5 39 := ⟨_, _, Try.underlying41, rfl, rfl, rfl⟩
theorem fl41_4 : FlOff Try.prog 41 4 6 3 := ⟨_, _, Try.underlying41, rfl, rfl, rfl⟩
theorem fl41_5 : FlOff Try.prog 41 5 7 4 := ⟨_, _, Try.underlying41, rfl, rfl, rfl⟩
theorem bd41 : Bd Try.prog 41 #[(0, 3), (3, 1), (4, 1), (5, 1), (6, 1), (7, 1)] := ⟨_, Try.underlying41, fun w => by simp [Try.sizeOf3, Try.sizeOf4, Try.sizeOf24, Try.sizeOf39]⟩
theorem ty98 : Ty Try.prog 98 r_compare_walk 8 true := ⟨⟨_, inf Try.type98, rfl⟩, ⟨_, Try.underlying98, rfl⟩, lay_compare_walk⟩
theorem z98 : Zero Try.prog 98 r_compare_walk (⟨(⟨(⟨0, 0, []⟩ : api_Tree), [], 0, [], 0, false⟩ : api_Walk)⟩ : compare_walk) := Go.J.Zero.mk (inf Try.type98) rfl fun _ => (show c_compare_walk.rd _ _ (p_compare_walk _) from ⟨.agg #[(.int .i64 0), (.int .i64 0), (.slice none 0 0), (.slice none 0 0), (.int .i64 0), (.slice none 0 0), (.int .i64 0), (.bool false)], #[], ⟨.agg #[(.int .i64 0), (.int .i64 0), (.slice none 0 0)], #[(.slice none 0 0), (.int .i64 0), (.slice none 0 0), (.int .i64 0), (.bool false)], ⟨(.int .i64 0), #[(.int .i64 0), (.slice none 0 0)], rfl, ⟨(.int .i64 0), #[(.slice none 0 0)], rfl, ⟨(.slice none 0 0), #[], nil_rd, rfl, rfl⟩, rfl⟩, rfl⟩, ⟨(.slice none 0 0), #[(.int .i64 0), (.slice none 0 0), (.int .i64 0), (.bool false)], nil_rd, ⟨(.int .i64 0), #[(.slice none 0 0), (.int .i64 0), (.bool false)], rfl, ⟨(.slice none 0 0), #[(.int .i64 0), (.bool false)], nil_rd, ⟨(.int .i64 0), #[(.bool false)], rfl, ⟨(.bool false), #[], rfl, rfl, rfl⟩, rfl⟩, rfl⟩, rfl⟩, rfl⟩, rfl⟩, rfl, rfl⟩)
theorem fo98_0 : FOff Try.prog 98 0 0 := ⟨_, _, _, Try.underlying98, rfl, rfl, inf Try.type41, by decide⟩
theorem fl98_0 : FlOff Try.prog 98 0 0 41 := ⟨_, _, Try.underlying98, rfl, rfl, rfl⟩
theorem bd98 : Bd Try.prog 98 #[(0, 8)] := ⟨_, Try.underlying98, fun w => by simp [Try.sizeOf41]⟩
theorem ty134 : Ty Try.prog 134 (Rep.iter Try.prog r_api_Extent) 1 false := ⟨⟨_, inf Try.type134, rfl⟩, ⟨_, Try.underlying134, rfl⟩, Lay.iter⟩
theorem ty151 : Ty Try.prog 151 r_extent_end 3 true := ⟨⟨_, inf Try.type151, rfl⟩, ⟨_, Try.underlying151, rfl⟩, lay_extent_end⟩
theorem z151 : Zero Try.prog 151 r_extent_end (⟨0, 0, 0⟩ : extent_end) := Go.J.Zero.mk (inf Try.type151) rfl fun _ => (show c_extent_end.rd _ _ (p_extent_end _) from ⟨(.int .i64 0), #[(.int .i64 0), (.int .i64 0)], rfl, ⟨(.int .i64 0), #[(.int .i64 0)], rfl, ⟨(.int .i64 0), #[], rfl, rfl, rfl⟩, rfl⟩, rfl⟩)
theorem fo151_0 : FOff Try.prog 151 0 0 := ⟨_, _, _, Try.underlying151, rfl, rfl, inf Try.type3, by decide⟩
theorem fo151_1 : FOff Try.prog 151 1 1 := ⟨_, _, _, Try.underlying151, rfl, rfl, inf Try.type3, by decide⟩
theorem fo151_2 : FOff Try.prog 151 2 2 := ⟨_, _, _, Try.underlying151, rfl, rfl, inf Try.type3, by decide⟩
theorem fl151_0 : FlOff Try.prog 151 0 0 3 := ⟨_, _, Try.underlying151, rfl, rfl, rfl⟩
theorem fl151_1 : FlOff Try.prog 151 1 1 3 := ⟨_, _, Try.underlying151, rfl, rfl, rfl⟩
theorem fl151_2 : FlOff Try.prog 151 2 2 3 := ⟨_, _, Try.underlying151, rfl, rfl, rfl⟩
def eq_extent_end (x y : extent_end) : Bool := x.at_ == y.at_ && x.list == y.list && x.step == y.step
theorem form_extent_end {I : Imm} {u : Go.Value} {x : extent_end} (h : r_extent_end.rd I u x) : u = .agg #[.int .i64 x.at_, .int .i64 x.list, .int .i64 x.step] := by
  obtain ⟨u0, c0, h0, ⟨u1, c1, h1, ⟨u2, c2, h2, hz, k2⟩, k1⟩, k0⟩ := h
  have h0 : u0 = (.int .i64 x.at_) := h0
  have h1 : u1 = (.int .i64 x.list) := h1
  have h2 : u2 = (.int .i64 x.step) := h2
  have hz : Go.Value.agg c2 = .agg #[] := hz
  simp only [Go.Value.agg.injEq] at hz k1 k2
  subst hz h0 h1 h2
  subst k2 k1
  simp [k0, Go.Value.cells]
theorem eqok151 : EqOK Try.prog 151 r_extent_end eq_extent_end := ⟨Try.eqGuardType151, fun I u v x y w hu hv => by
  rw [form_extent_end hu, form_extent_end hv]
  refine ⟨_, _, rfl, rfl, ?_⟩
  have hS : Try.prog.underlying 151 = some (.struct (Try.prog.fieldsOf 151)) := by simp only [Go.Program.fieldsOf, Try.underlying151]
  rw [show (10000 : Nat) = 9999 + 1 from rfl, Go.run_equalIn_agg w 9999 151 _ _ hS Try.stoodInHeld151]
  simp only [Go.Program.fieldsOf, Try.underlying151]
  simp [Go.Op.eqFields, Go.part, Try.isAgg3, Go.run_equalIn_int w 9998 3 .i64 .i64 _ _ Try.underlying3]



  all_goals simp only [eq_extent_end]
  by_cases q0 : x.at_ = y.at_ <;> by_cases q1 : x.list = y.list <;> by_cases q2 : x.step = y.step <;> simp [q0, q1, q2, Go.run_equalIn_int w 9998 3 .i64 .i64 _ _ Try.underlying3]⟩
theorem bd151 : Bd Try.prog 151 #[(0, 1), (1, 1), (2, 1)] := ⟨_, Try.underlying151, fun w => by simp [Try.sizeOf3]⟩
theorem ty147 : Ty Try.prog 147 (Rep.sl r_extent_end 3) 1 false := ⟨⟨_, inf Try.type147, rfl⟩, ⟨_, Try.underlying147, rfl⟩, (Lay.sl _ _)⟩
theorem z147 : Zero Try.prog 147 (Rep.sl r_extent_end 3) [] := Zero.sl (inf Try.type147) rfl
theorem zv147 : Zero Try.prog 147 Rep.slv (.slice none 0 0) := Zero.slv (inf Try.type147) rfl
theorem tv147 : Ty Try.prog 147 Rep.slv 1 false := ⟨⟨_, inf Try.type147, rfl⟩, ⟨_, Try.underlying147, rfl⟩, Lay.slv⟩
theorem sl147 : Sl Try.prog 147 151 3 24 := ⟨Try.underlying147, ⟨_, _, inf Try.type151, rfl, rfl, rfl, rfl⟩, by decide⟩
theorem ty159 : Ty Try.prog 159 (Rep.fn2 Try.prog r_extent_end r_extent_end (Rep.int .i64)) 1 false := ⟨⟨_, inf Try.type159, rfl⟩, ⟨_, Try.underlying159, rfl⟩, Lay.fn2⟩
theorem ty171 : Ty Try.prog 171 (Rep.int .u32) 1 false := ⟨⟨_, inf Try.type171, rfl⟩, ⟨_, Try.underlying171, rfl⟩, (Lay.int _)⟩
theorem z171 : Zero Try.prog 171 (Rep.int .u32) 0 := Zero.int (inf Try.type171) rfl
theorem ty152 : Ty Try.prog 152 (Rep.int .u64) 1 false := ⟨⟨_, inf Try.type152, rfl⟩, ⟨_, Try.underlying152, rfl⟩, (Lay.int _)⟩
theorem z152 : Zero Try.prog 152 (Rep.int .u64) 0 := Zero.int (inf Try.type152) rfl
theorem ty173 : Ty Try.prog 173 (Rep.int .u64) 1 false := ⟨⟨_, inf Try.type173, rfl⟩, ⟨_, Try.underlying173, rfl⟩, (Lay.int _)⟩
theorem z173 : Zero Try.prog 173 (Rep.int .u64) 0 := Zero.int (inf Try.type173) rfl
theorem ty163 : Ty Try.prog 163 (Rep.int .i64) 1 false := ⟨⟨_, inf Try.type163, rfl⟩, ⟨_, Try.underlying163, rfl⟩, (Lay.int _)⟩
theorem z163 : Zero Try.prog 163 (Rep.int .i64) 0 := Zero.int (inf Try.type163) rfl
theorem ty155 : Ty Try.prog 155 (Rep.sl (Rep.sl r_api_Extent 2) 1) 1 false := ⟨⟨_, inf Try.type155, rfl⟩, ⟨_, Try.underlying155, rfl⟩, (Lay.sl _ _)⟩
theorem z155 : Zero Try.prog 155 (Rep.sl (Rep.sl r_api_Extent 2) 1) [] := Zero.sl (inf Try.type155) rfl
theorem zv155 : Zero Try.prog 155 Rep.slv (.slice none 0 0) := Zero.slv (inf Try.type155) rfl
theorem tv155 : Ty Try.prog 155 Rep.slv 1 false := ⟨⟨_, inf Try.type155, rfl⟩, ⟨_, Try.underlying155, rfl⟩, Lay.slv⟩
theorem sl155 : Sl Try.prog 155 39 1 24 := ⟨Try.underlying155, ⟨_, _, inf Try.type39, rfl, rfl, rfl, rfl⟩, by decide⟩
theorem ty136 : Ty Try.prog 136 (Rep.fn2 Try.prog Rep.bool Rep.bool Rep.bool) 1 false := ⟨⟨_, inf Try.type136, rfl⟩, ⟨_, Try.underlying136, rfl⟩, Lay.fn2⟩
theorem ty149 : Ty Try.prog 149 (Rep.arr (Rep.int .i64) 1 2) 2 true := ⟨⟨_, inf Try.type149, rfl⟩, ⟨_, Try.underlying149, rfl⟩, (Lay.arr (Lay.int _))⟩
theorem ar149 : Ar Try.prog 149 3 1 2 := ⟨Try.underlying149, _, inf Try.type3, rfl⟩
theorem z149 : Zero Try.prog 149 (Rep.arr (Rep.int .i64) 1 2) (List.replicate 2 0) := Zero.arr1 (v := .int .i64 0) (inf Try.type149) rfl rfl (fun _ => rfl)
theorem ty96 : Ty Try.prog 96 Rep.ptr 1 false := ⟨⟨_, inf Try.type96, rfl⟩, ⟨_, Try.underlying96, rfl⟩, Lay.ptr⟩
theorem ty43 : Ty Try.prog 43 (Rep.sl r_api_Message 8) 1 false := ⟨⟨_, inf Try.type43, rfl⟩, ⟨_, Try.underlying43, rfl⟩, (Lay.sl _ _)⟩
theorem z43 : Zero Try.prog 43 (Rep.sl r_api_Message 8) [] := Zero.sl (inf Try.type43) rfl
theorem zv43 : Zero Try.prog 43 Rep.slv (.slice none 0 0) := Zero.slv (inf Try.type43) rfl
theorem tv43 : Ty Try.prog 43 Rep.slv 1 false := ⟨⟨_, inf Try.type43, rfl⟩, ⟨_, Try.underlying43, rfl⟩, Lay.slv⟩
theorem sl43 : Sl Try.prog 43 28 8 96 := ⟨Try.underlying43, ⟨_, _, inf Try.type28, rfl, rfl, rfl, rfl⟩, by decide⟩
theorem ty76 : Ty Try.prog 76 (Rep.arr (Rep.int .u8) 1 8) 8 true := ⟨⟨_, inf Try.type76, rfl⟩, ⟨_, Try.underlying76, rfl⟩, (Lay.arr (Lay.int _))⟩
theorem ar76 : Ar Try.prog 76 5 1 8 := ⟨Try.underlying76, _, inf Try.type5, rfl⟩
theorem z76 : Zero Try.prog 76 (Rep.arr (Rep.int .u8) 1 8) (List.replicate 8 0) := Zero.arr1 (v := .int .u8 0) (inf Try.type76) rfl rfl (fun _ => rfl)
theorem ty64 : Ty Try.prog 64 (Rep.sl (Rep.arr (Rep.int .u8) 1 8) 8) 1 false := ⟨⟨_, inf Try.type64, rfl⟩, ⟨_, Try.underlying64, rfl⟩, (Lay.sl _ _)⟩
theorem z64 : Zero Try.prog 64 (Rep.sl (Rep.arr (Rep.int .u8) 1 8) 8) [] := Zero.sl (inf Try.type64) rfl
theorem zv64 : Zero Try.prog 64 Rep.slv (.slice none 0 0) := Zero.slv (inf Try.type64) rfl
theorem tv64 : Ty Try.prog 64 Rep.slv 1 false := ⟨⟨_, inf Try.type64, rfl⟩, ⟨_, Try.underlying64, rfl⟩, Lay.slv⟩
theorem sl64 : Sl Try.prog 64 76 8 8 := ⟨Try.underlying64, ⟨_, _, inf Try.type76, rfl, rfl, rfl, rfl⟩, by decide⟩
theorem ty51 : Ty Try.prog 51 (Rep.arr (Rep.int .i64) 1 3) 3 true := ⟨⟨_, inf Try.type51, rfl⟩, ⟨_, Try.underlying51, rfl⟩, (Lay.arr (Lay.int _))⟩
theorem ar51 : Ar Try.prog 51 3 1 3 := ⟨Try.underlying51, _, inf Try.type3, rfl⟩
theorem z51 : Zero Try.prog 51 (Rep.arr (Rep.int .i64) 1 3) (List.replicate 3 0) := Zero.arr1 (v := .int .i64 0) (inf Try.type51) rfl rfl (fun _ => rfl)
theorem ty130 : Ty Try.prog 130 (Rep.iter Try.prog (Rep.sl (Rep.arr (Rep.int .u8) 1 8) 8)) 1 false := ⟨⟨_, inf Try.type130, rfl⟩, ⟨_, Try.underlying130, rfl⟩, Lay.iter⟩
theorem ty113 : Ty Try.prog 113 (Rep.sl r_api_Tree 3) 1 false := ⟨⟨_, inf Try.type113, rfl⟩, ⟨_, Try.underlying113, rfl⟩, (Lay.sl _ _)⟩
theorem z113 : Zero Try.prog 113 (Rep.sl r_api_Tree 3) [] := Zero.sl (inf Try.type113) rfl
theorem zv113 : Zero Try.prog 113 Rep.slv (.slice none 0 0) := Zero.slv (inf Try.type113) rfl
theorem tv113 : Ty Try.prog 113 Rep.slv 1 false := ⟨⟨_, inf Try.type113, rfl⟩, ⟨_, Try.underlying113, rfl⟩, Lay.slv⟩
theorem sl113 : Sl Try.prog 113 24 3 40 := ⟨Try.underlying113, ⟨_, _, inf Try.type24, rfl, rfl, rfl, rfl⟩, by decide⟩
theorem ty114 : Ty Try.prog 114 (Rep.arr (Rep.sl (Rep.int .i64) 1) 1 16) 16 true := ⟨⟨_, inf Try.type114, rfl⟩, ⟨_, Try.underlying114, rfl⟩, (Lay.arr (Lay.sl _ _))⟩
theorem ar114 : Ar Try.prog 114 25 1 16 := ⟨Try.underlying114, _, inf Try.type25, rfl⟩
theorem z114 : Zero Try.prog 114 (Rep.arr (Rep.sl (Rep.int .i64) 1) 1 16) (List.replicate 16 []) := Zero.arr1 (v := .slice none 0 0) (inf Try.type114) rfl rfl (fun _ => nil_rd)
def p_api_Tree_h2 : api_Tree × Go.Value → Int × Int × Go.Value × Unit := fun q => (q.1.Size, q.1.Leaf, q.2, ())
def u_api_Tree_h2 : Int × Int × Go.Value × Unit → api_Tree × Go.Value := fun x => ((⟨x.1, x.2.1, []⟩ : api_Tree), x.2.2.1)
def c_api_Tree_h2 : Rep (Int × Int × Go.Value × Unit) := (Rep.cons (Rep.int .i64) (Rep.cons (Rep.int .i64) (Rep.cons Rep.slv Rep.nilS)))
def r_api_Tree_h2 : Rep (api_Tree × Go.Value) := Rep.iso p_api_Tree_h2 c_api_Tree_h2
theorem lay_api_Tree_h2 : r_api_Tree_h2.Lay 3 true := Lay.iso (f := p_api_Tree_h2) (π := c_api_Tree_h2) (Lay.cons (Lay.int _) (Lay.cons (Lay.int _) (Lay.cons Lay.slv Lay.nilS)))
theorem hf_api_Tree_h2_Size : HasF r_api_Tree_h2 0 (Rep.int .i64) (fun q => q.1.Size) := HasF.iso (f := p_api_Tree_h2) (π := c_api_Tree_h2) (HasF.head _ _)
theorem hf_api_Tree_h2_Leaf : HasF r_api_Tree_h2 1 (Rep.int .i64) (fun q => q.1.Leaf) := HasF.iso (f := p_api_Tree_h2) (π := c_api_Tree_h2) (HasF.tail (Lay.int _) (HasF.head _ _))
theorem hf_api_Tree_h2_Levels : HasF r_api_Tree_h2 2 Rep.slv (fun q => q.2) := HasF.iso (f := p_api_Tree_h2) (π := c_api_Tree_h2) (HasF.tail (Lay.int _) (HasF.tail (Lay.int _) (HasF.head _ _)))
theorem ty_api_Tree_h2 : Ty Try.prog 24 r_api_Tree_h2 3 true := ⟨⟨_, inf Try.type24, rfl⟩, ⟨_, Try.underlying24, rfl⟩, lay_api_Tree_h2⟩
theorem z_api_Tree_h2 : Zero Try.prog 24 r_api_Tree_h2 ((⟨0, 0, []⟩ : api_Tree), (.slice none 0 0 : Go.Value)) := Go.J.Zero.mk (inf Try.type24) rfl fun _ => (show c_api_Tree_h2.rd _ _ (p_api_Tree_h2 _) from ⟨(.int .i64 0), #[(.int .i64 0), (.slice none 0 0)], rfl, ⟨(.int .i64 0), #[(.slice none 0 0)], rfl, ⟨(.slice none 0 0), #[], ⟨rfl, _, _, _, rfl⟩, rfl, rfl⟩, rfl⟩, rfl⟩)
theorem sg_api_Tree_h2__api_Tree_h2__1 : SetG r_api_Tree_h2 r_api_Tree_h2 1 (Rep.int .i64) (fun q y => ((⟨q.1.Size, y, []⟩ : api_Tree), q.2)) := (SetG.iso (f := p_api_Tree_h2) (f' := p_api_Tree_h2) (k := u_api_Tree_h2) (fun _ => rfl) (π := c_api_Tree_h2) (π' := c_api_Tree_h2) (SetG.tail (Lay.int _) (SetG.head (Lay.int _) (Lay.int _)) agg_cons))
theorem sg_api_Tree_h2__api_Tree_h2__0 : SetG r_api_Tree_h2 r_api_Tree_h2 0 (Rep.int .i64) (fun q y => ((⟨y, q.1.Leaf, []⟩ : api_Tree), q.2)) := (SetG.iso (f := p_api_Tree_h2) (f' := p_api_Tree_h2) (k := u_api_Tree_h2) (fun _ => rfl) (π := c_api_Tree_h2) (π' := c_api_Tree_h2) (SetG.head (Lay.int _) (Lay.int _)))
theorem sg_api_Tree_h2__api_Tree_h2__2 : SetG r_api_Tree_h2 r_api_Tree_h2 2 Rep.slv (fun q y => ((⟨q.1.Size, q.1.Leaf, []⟩ : api_Tree), y)) := (SetG.iso (f := p_api_Tree_h2) (f' := p_api_Tree_h2) (k := u_api_Tree_h2) (fun _ => rfl) (π := c_api_Tree_h2) (π' := c_api_Tree_h2) (SetG.tail (Lay.int _) (SetG.tail (Lay.int _) (SetG.head Lay.slv Lay.slv) agg_cons) agg_cons))
def p_api_Message_h7 : api_Message × Go.Value → Int × Int × Int × Int × Int × Int × List Int × Go.Value × Unit := fun q => (q.1.Kind, q.1.From, q.1.To, q.1.Number, q.1.Value, q.1.Epoch, q.1.Values, q.2, ())
def u_api_Message_h7 : Int × Int × Int × Int × Int × Int × List Int × Go.Value × Unit → api_Message × Go.Value := fun x => ((⟨x.1, x.2.1, x.2.2.1, x.2.2.2.1, x.2.2.2.2.1, x.2.2.2.2.2.1, x.2.2.2.2.2.2.1, []⟩ : api_Message), x.2.2.2.2.2.2.2.1)
def c_api_Message_h7 : Rep (Int × Int × Int × Int × Int × Int × List Int × Go.Value × Unit) := (Rep.cons (Rep.int .i64) (Rep.cons (Rep.int .i64) (Rep.cons (Rep.int .i64) (Rep.cons (Rep.int .i64) (Rep.cons (Rep.int .i64) (Rep.cons (Rep.int .i64) (Rep.cons (Rep.sl (Rep.int .i64) 1) (Rep.cons Rep.slv Rep.nilS))))))))
def r_api_Message_h7 : Rep (api_Message × Go.Value) := Rep.iso p_api_Message_h7 c_api_Message_h7
theorem lay_api_Message_h7 : r_api_Message_h7.Lay 8 true := Lay.iso (f := p_api_Message_h7) (π := c_api_Message_h7) (Lay.cons (Lay.int _) (Lay.cons (Lay.int _) (Lay.cons (Lay.int _) (Lay.cons (Lay.int _) (Lay.cons (Lay.int _) (Lay.cons (Lay.int _) (Lay.cons (Lay.sl _ _) (Lay.cons Lay.slv Lay.nilS))))))))
theorem hf_api_Message_h7_Kind : HasF r_api_Message_h7 0 (Rep.int .i64) (fun q => q.1.Kind) := HasF.iso (f := p_api_Message_h7) (π := c_api_Message_h7) (HasF.head _ _)
theorem hf_api_Message_h7_From : HasF r_api_Message_h7 1 (Rep.int .i64) (fun q => q.1.From) := HasF.iso (f := p_api_Message_h7) (π := c_api_Message_h7) (HasF.tail (Lay.int _) (HasF.head _ _))
theorem hf_api_Message_h7_To : HasF r_api_Message_h7 2 (Rep.int .i64) (fun q => q.1.To) := HasF.iso (f := p_api_Message_h7) (π := c_api_Message_h7) (HasF.tail (Lay.int _) (HasF.tail (Lay.int _) (HasF.head _ _)))
theorem hf_api_Message_h7_Number : HasF r_api_Message_h7 3 (Rep.int .i64) (fun q => q.1.Number) := HasF.iso (f := p_api_Message_h7) (π := c_api_Message_h7) (HasF.tail (Lay.int _) (HasF.tail (Lay.int _) (HasF.tail (Lay.int _) (HasF.head _ _))))
theorem hf_api_Message_h7_Value : HasF r_api_Message_h7 4 (Rep.int .i64) (fun q => q.1.Value) := HasF.iso (f := p_api_Message_h7) (π := c_api_Message_h7) (HasF.tail (Lay.int _) (HasF.tail (Lay.int _) (HasF.tail (Lay.int _) (HasF.tail (Lay.int _) (HasF.head _ _)))))
theorem hf_api_Message_h7_Epoch : HasF r_api_Message_h7 5 (Rep.int .i64) (fun q => q.1.Epoch) := HasF.iso (f := p_api_Message_h7) (π := c_api_Message_h7) (HasF.tail (Lay.int _) (HasF.tail (Lay.int _) (HasF.tail (Lay.int _) (HasF.tail (Lay.int _) (HasF.tail (Lay.int _) (HasF.head _ _))))))
theorem hf_api_Message_h7_Values : HasF r_api_Message_h7 6 (Rep.sl (Rep.int .i64) 1) (fun q => q.1.Values) := HasF.iso (f := p_api_Message_h7) (π := c_api_Message_h7) (HasF.tail (Lay.int _) (HasF.tail (Lay.int _) (HasF.tail (Lay.int _) (HasF.tail (Lay.int _) (HasF.tail (Lay.int _) (HasF.tail (Lay.int _) (HasF.head _ _)))))))
theorem hf_api_Message_h7_Body : HasF r_api_Message_h7 7 Rep.slv (fun q => q.2) := HasF.iso (f := p_api_Message_h7) (π := c_api_Message_h7) (HasF.tail (Lay.int _) (HasF.tail (Lay.int _) (HasF.tail (Lay.int _) (HasF.tail (Lay.int _) (HasF.tail (Lay.int _) (HasF.tail (Lay.int _) (HasF.tail (Lay.sl _ _) (HasF.head _ _))))))))
theorem ty_api_Message_h7 : Ty Try.prog 28 r_api_Message_h7 8 true := ⟨⟨_, inf Try.type28, rfl⟩, ⟨_, Try.underlying28, rfl⟩, lay_api_Message_h7⟩
theorem z_api_Message_h7 : Zero Try.prog 28 r_api_Message_h7 ((⟨0, 0, 0, 0, 0, 0, [], []⟩ : api_Message), (.slice none 0 0 : Go.Value)) := Go.J.Zero.mk (inf Try.type28) rfl fun _ => (show c_api_Message_h7.rd _ _ (p_api_Message_h7 _) from ⟨(.int .i64 0), #[(.int .i64 0), (.int .i64 0), (.int .i64 0), (.int .i64 0), (.int .i64 0), (.slice none 0 0), (.slice none 0 0)], rfl, ⟨(.int .i64 0), #[(.int .i64 0), (.int .i64 0), (.int .i64 0), (.int .i64 0), (.slice none 0 0), (.slice none 0 0)], rfl, ⟨(.int .i64 0), #[(.int .i64 0), (.int .i64 0), (.int .i64 0), (.slice none 0 0), (.slice none 0 0)], rfl, ⟨(.int .i64 0), #[(.int .i64 0), (.int .i64 0), (.slice none 0 0), (.slice none 0 0)], rfl, ⟨(.int .i64 0), #[(.int .i64 0), (.slice none 0 0), (.slice none 0 0)], rfl, ⟨(.int .i64 0), #[(.slice none 0 0), (.slice none 0 0)], rfl, ⟨(.slice none 0 0), #[(.slice none 0 0)], nil_rd, ⟨(.slice none 0 0), #[], ⟨rfl, _, _, _, rfl⟩, rfl, rfl⟩, rfl⟩, rfl⟩, rfl⟩, rfl⟩, rfl⟩, rfl⟩, rfl⟩)
theorem sg_api_Message_h7__api_Message_h7__6 : SetG r_api_Message_h7 r_api_Message_h7 6 (Rep.sl (Rep.int .i64) 1) (fun q y => ((⟨q.1.Kind, q.1.From, q.1.To, q.1.Number, q.1.Value, q.1.Epoch, y, []⟩ : api_Message), q.2)) := (SetG.iso (f := p_api_Message_h7) (f' := p_api_Message_h7) (k := u_api_Message_h7) (fun _ => rfl) (π := c_api_Message_h7) (π' := c_api_Message_h7) (SetG.tail (Lay.int _) (SetG.tail (Lay.int _) (SetG.tail (Lay.int _) (SetG.tail (Lay.int _) (SetG.tail (Lay.int _) (SetG.tail (Lay.int _) (SetG.head (Lay.sl _ _) (Lay.sl _ _)) agg_cons) agg_cons) agg_cons) agg_cons) agg_cons) agg_cons))
theorem sg_api_Message_h7__api_Message_h7__3 : SetG r_api_Message_h7 r_api_Message_h7 3 (Rep.int .i64) (fun q y => ((⟨q.1.Kind, q.1.From, q.1.To, y, q.1.Value, q.1.Epoch, q.1.Values, []⟩ : api_Message), q.2)) := (SetG.iso (f := p_api_Message_h7) (f' := p_api_Message_h7) (k := u_api_Message_h7) (fun _ => rfl) (π := c_api_Message_h7) (π' := c_api_Message_h7) (SetG.tail (Lay.int _) (SetG.tail (Lay.int _) (SetG.tail (Lay.int _) (SetG.head (Lay.int _) (Lay.int _)) agg_cons) agg_cons) agg_cons))
theorem sg_api_Message_h7__api_Message_h7__2 : SetG r_api_Message_h7 r_api_Message_h7 2 (Rep.int .i64) (fun q y => ((⟨q.1.Kind, q.1.From, y, q.1.Number, q.1.Value, q.1.Epoch, q.1.Values, []⟩ : api_Message), q.2)) := (SetG.iso (f := p_api_Message_h7) (f' := p_api_Message_h7) (k := u_api_Message_h7) (fun _ => rfl) (π := c_api_Message_h7) (π' := c_api_Message_h7) (SetG.tail (Lay.int _) (SetG.tail (Lay.int _) (SetG.head (Lay.int _) (Lay.int _)) agg_cons) agg_cons))
theorem sg_api_Message_h7__api_Message_h7__1 : SetG r_api_Message_h7 r_api_Message_h7 1 (Rep.int .i64) (fun q y => ((⟨q.1.Kind, y, q.1.To, q.1.Number, q.1.Value, q.1.Epoch, q.1.Values, []⟩ : api_Message), q.2)) := (SetG.iso (f := p_api_Message_h7) (f' := p_api_Message_h7) (k := u_api_Message_h7) (fun _ => rfl) (π := c_api_Message_h7) (π' := c_api_Message_h7) (SetG.tail (Lay.int _) (SetG.head (Lay.int _) (Lay.int _)) agg_cons))
theorem sg_api_Message_h7__api_Message_h7__0 : SetG r_api_Message_h7 r_api_Message_h7 0 (Rep.int .i64) (fun q y => ((⟨y, q.1.From, q.1.To, q.1.Number, q.1.Value, q.1.Epoch, q.1.Values, []⟩ : api_Message), q.2)) := (SetG.iso (f := p_api_Message_h7) (f' := p_api_Message_h7) (k := u_api_Message_h7) (fun _ => rfl) (π := c_api_Message_h7) (π' := c_api_Message_h7) (SetG.head (Lay.int _) (Lay.int _)))
theorem sg_api_Message_h7__api_Message_h7__7 : SetG r_api_Message_h7 r_api_Message_h7 7 Rep.slv (fun q y => ((⟨q.1.Kind, q.1.From, q.1.To, q.1.Number, q.1.Value, q.1.Epoch, q.1.Values, []⟩ : api_Message), y)) := (SetG.iso (f := p_api_Message_h7) (f' := p_api_Message_h7) (k := u_api_Message_h7) (fun _ => rfl) (π := c_api_Message_h7) (π' := c_api_Message_h7) (SetG.tail (Lay.int _) (SetG.tail (Lay.int _) (SetG.tail (Lay.int _) (SetG.tail (Lay.int _) (SetG.tail (Lay.int _) (SetG.tail (Lay.int _) (SetG.tail (Lay.sl _ _) (SetG.head Lay.slv Lay.slv) agg_cons) agg_cons) agg_cons) agg_cons) agg_cons) agg_cons) agg_cons))
def p_api_Walk_h1 : api_Walk × Go.Value → api_Tree × Go.Value × Int × List api_Extent × Int × Bool × Unit := fun q => (q.1.Tree, q.2, q.1.Level, q.1.Found, q.1.Sent, q.1.Done, ())
def u_api_Walk_h1 : api_Tree × Go.Value × Int × List api_Extent × Int × Bool × Unit → api_Walk × Go.Value := fun x => ((⟨x.1, [], x.2.2.1, x.2.2.2.1, x.2.2.2.2.1, x.2.2.2.2.2.1⟩ : api_Walk), x.2.1)
def c_api_Walk_h1 : Rep (api_Tree × Go.Value × Int × List api_Extent × Int × Bool × Unit) := (Rep.cons r_api_Tree (Rep.cons Rep.slv (Rep.cons (Rep.int .i64) (Rep.cons (Rep.sl r_api_Extent 2) (Rep.cons (Rep.int .i64) (Rep.cons Rep.bool Rep.nilS))))))
def r_api_Walk_h1 : Rep (api_Walk × Go.Value) := Rep.iso p_api_Walk_h1 c_api_Walk_h1
theorem lay_api_Walk_h1 : r_api_Walk_h1.Lay 8 true := Lay.iso (f := p_api_Walk_h1) (π := c_api_Walk_h1) (Lay.cons lay_api_Tree (Lay.cons Lay.slv (Lay.cons (Lay.int _) (Lay.cons (Lay.sl _ _) (Lay.cons (Lay.int _) (Lay.cons Lay.bool Lay.nilS))))))
theorem hf_api_Walk_h1_Tree : HasF r_api_Walk_h1 0 r_api_Tree (fun q => q.1.Tree) := HasF.iso (f := p_api_Walk_h1) (π := c_api_Walk_h1) (HasF.head _ _)
theorem hf_api_Walk_h1_Pending : HasF r_api_Walk_h1 3 Rep.slv (fun q => q.2) := HasF.iso (f := p_api_Walk_h1) (π := c_api_Walk_h1) (HasF.tail lay_api_Tree (HasF.head _ _))
theorem hf_api_Walk_h1_Level : HasF r_api_Walk_h1 4 (Rep.int .i64) (fun q => q.1.Level) := HasF.iso (f := p_api_Walk_h1) (π := c_api_Walk_h1) (HasF.tail lay_api_Tree (HasF.tail Lay.slv (HasF.head _ _)))
theorem hf_api_Walk_h1_Found : HasF r_api_Walk_h1 5 (Rep.sl r_api_Extent 2) (fun q => q.1.Found) := HasF.iso (f := p_api_Walk_h1) (π := c_api_Walk_h1) (HasF.tail lay_api_Tree (HasF.tail Lay.slv (HasF.tail (Lay.int _) (HasF.head _ _))))
theorem hf_api_Walk_h1_Sent : HasF r_api_Walk_h1 6 (Rep.int .i64) (fun q => q.1.Sent) := HasF.iso (f := p_api_Walk_h1) (π := c_api_Walk_h1) (HasF.tail lay_api_Tree (HasF.tail Lay.slv (HasF.tail (Lay.int _) (HasF.tail (Lay.sl _ _) (HasF.head _ _)))))
theorem hf_api_Walk_h1_Done : HasF r_api_Walk_h1 7 Rep.bool (fun q => q.1.Done) := HasF.iso (f := p_api_Walk_h1) (π := c_api_Walk_h1) (HasF.tail lay_api_Tree (HasF.tail Lay.slv (HasF.tail (Lay.int _) (HasF.tail (Lay.sl _ _) (HasF.tail (Lay.int _) (HasF.head _ _))))))
theorem ty_api_Walk_h1 : Ty Try.prog 41 r_api_Walk_h1 8 true := ⟨⟨_, inf Try.type41, rfl⟩, ⟨_, Try.underlying41, rfl⟩, lay_api_Walk_h1⟩
theorem z_api_Walk_h1 : Zero Try.prog 41 r_api_Walk_h1 ((⟨(⟨0, 0, []⟩ : api_Tree), [], 0, [], 0, false⟩ : api_Walk), (.slice none 0 0 : Go.Value)) := Go.J.Zero.mk (inf Try.type41) rfl fun _ => (show c_api_Walk_h1.rd _ _ (p_api_Walk_h1 _) from ⟨.agg #[(.int .i64 0), (.int .i64 0), (.slice none 0 0)], #[(.slice none 0 0), (.int .i64 0), (.slice none 0 0), (.int .i64 0), (.bool false)], ⟨(.int .i64 0), #[(.int .i64 0), (.slice none 0 0)], rfl, ⟨(.int .i64 0), #[(.slice none 0 0)], rfl, ⟨(.slice none 0 0), #[], nil_rd, rfl, rfl⟩, rfl⟩, rfl⟩, ⟨(.slice none 0 0), #[(.int .i64 0), (.slice none 0 0), (.int .i64 0), (.bool false)], ⟨rfl, _, _, _, rfl⟩, ⟨(.int .i64 0), #[(.slice none 0 0), (.int .i64 0), (.bool false)], rfl, ⟨(.slice none 0 0), #[(.int .i64 0), (.bool false)], nil_rd, ⟨(.int .i64 0), #[(.bool false)], rfl, ⟨(.bool false), #[], rfl, rfl, rfl⟩, rfl⟩, rfl⟩, rfl⟩, rfl⟩, rfl⟩)
def p_compare_walk_h0_1 : compare_walk × Go.Value → (api_Walk × Go.Value) × Unit := fun q => ((q.1.Walk, q.2), ())
def u_compare_walk_h0_1 : (api_Walk × Go.Value) × Unit → compare_walk × Go.Value := fun x => ((⟨x.1.1⟩ : compare_walk), x.1.2)
def c_compare_walk_h0_1 : Rep ((api_Walk × Go.Value) × Unit) := (Rep.cons r_api_Walk_h1 Rep.nilS)
def r_compare_walk_h0_1 : Rep (compare_walk × Go.Value) := Rep.iso p_compare_walk_h0_1 c_compare_walk_h0_1
theorem lay_compare_walk_h0_1 : r_compare_walk_h0_1.Lay 8 true := Lay.iso (f := p_compare_walk_h0_1) (π := c_compare_walk_h0_1) (Lay.cons lay_api_Walk_h1 Lay.nilS)
theorem hf_compare_walk_h0_1_Walk : HasF r_compare_walk_h0_1 0 r_api_Walk_h1 (fun q => (q.1.Walk, q.2)) := HasF.iso (f := p_compare_walk_h0_1) (π := c_compare_walk_h0_1) (HasF.head _ _)
theorem ty_compare_walk_h0_1 : Ty Try.prog 98 r_compare_walk_h0_1 8 true := ⟨⟨_, inf Try.type98, rfl⟩, ⟨_, Try.underlying98, rfl⟩, lay_compare_walk_h0_1⟩
theorem z_compare_walk_h0_1 : Zero Try.prog 98 r_compare_walk_h0_1 ((⟨(⟨(⟨0, 0, []⟩ : api_Tree), [], 0, [], 0, false⟩ : api_Walk)⟩ : compare_walk), (.slice none 0 0 : Go.Value)) := Go.J.Zero.mk (inf Try.type98) rfl fun _ => (show c_compare_walk_h0_1.rd _ _ (p_compare_walk_h0_1 _) from ⟨.agg #[(.int .i64 0), (.int .i64 0), (.slice none 0 0), (.slice none 0 0), (.int .i64 0), (.slice none 0 0), (.int .i64 0), (.bool false)], #[], ⟨.agg #[(.int .i64 0), (.int .i64 0), (.slice none 0 0)], #[(.slice none 0 0), (.int .i64 0), (.slice none 0 0), (.int .i64 0), (.bool false)], ⟨(.int .i64 0), #[(.int .i64 0), (.slice none 0 0)], rfl, ⟨(.int .i64 0), #[(.slice none 0 0)], rfl, ⟨(.slice none 0 0), #[], nil_rd, rfl, rfl⟩, rfl⟩, rfl⟩, ⟨(.slice none 0 0), #[(.int .i64 0), (.slice none 0 0), (.int .i64 0), (.bool false)], ⟨rfl, _, _, _, rfl⟩, ⟨(.int .i64 0), #[(.slice none 0 0), (.int .i64 0), (.bool false)], rfl, ⟨(.slice none 0 0), #[(.int .i64 0), (.bool false)], nil_rd, ⟨(.int .i64 0), #[(.bool false)], rfl, ⟨(.bool false), #[], rfl, rfl, rfl⟩, rfl⟩, rfl⟩, rfl⟩, rfl⟩, rfl⟩, rfl, rfl⟩)
theorem sg_compare_walk__compare_walk_h0_1__0_1 : SetG r_compare_walk r_compare_walk_h0_1 3 Rep.slv (fun q y => ((⟨(⟨q.Walk.Tree, [], q.Walk.Level, q.Walk.Found, q.Walk.Sent, q.Walk.Done⟩ : api_Walk)⟩ : compare_walk), y)) := (SetG.iso (f := p_compare_walk) (f' := p_compare_walk_h0_1) (k := u_compare_walk_h0_1) (fun _ => rfl) (π := c_compare_walk) (π' := c_compare_walk_h0_1) (SetG.headIn lay_api_Walk lay_api_Walk_h1 (SetG.iso (f := p_api_Walk) (f' := p_api_Walk_h1) (k := u_api_Walk_h1) (fun _ => rfl) (π := c_api_Walk) (π' := c_api_Walk_h1) (SetG.tail lay_api_Tree (SetG.head (Lay.sl _ _) Lay.slv) agg_cons))))
theorem sg_compare_walk_h0_1__compare_walk_h0_1__0_1 : SetG r_compare_walk_h0_1 r_compare_walk_h0_1 3 Rep.slv (fun q y => ((⟨(⟨q.1.Walk.Tree, [], q.1.Walk.Level, q.1.Walk.Found, q.1.Walk.Sent, q.1.Walk.Done⟩ : api_Walk)⟩ : compare_walk), y)) := (SetG.iso (f := p_compare_walk_h0_1) (f' := p_compare_walk_h0_1) (k := u_compare_walk_h0_1) (fun _ => rfl) (π := c_compare_walk_h0_1) (π' := c_compare_walk_h0_1) (SetG.headIn lay_api_Walk_h1 lay_api_Walk_h1 (SetG.iso (f := p_api_Walk_h1) (f' := p_api_Walk_h1) (k := u_api_Walk_h1) (fun _ => rfl) (π := c_api_Walk_h1) (π' := c_api_Walk_h1) (SetG.tail lay_api_Tree (SetG.head Lay.slv Lay.slv) agg_cons))))
def p_api_Message_h6h7 : api_Message × Go.Value × Go.Value → Int × Int × Int × Int × Int × Int × Go.Value × Go.Value × Unit := fun q => (q.1.Kind, q.1.From, q.1.To, q.1.Number, q.1.Value, q.1.Epoch, q.2.1, q.2.2, ())
def u_api_Message_h6h7 : Int × Int × Int × Int × Int × Int × Go.Value × Go.Value × Unit → api_Message × Go.Value × Go.Value := fun x => ((⟨x.1, x.2.1, x.2.2.1, x.2.2.2.1, x.2.2.2.2.1, x.2.2.2.2.2.1, [], []⟩ : api_Message), (x.2.2.2.2.2.2.1, x.2.2.2.2.2.2.2.1))
def c_api_Message_h6h7 : Rep (Int × Int × Int × Int × Int × Int × Go.Value × Go.Value × Unit) := (Rep.cons (Rep.int .i64) (Rep.cons (Rep.int .i64) (Rep.cons (Rep.int .i64) (Rep.cons (Rep.int .i64) (Rep.cons (Rep.int .i64) (Rep.cons (Rep.int .i64) (Rep.cons Rep.slv (Rep.cons Rep.slv Rep.nilS))))))))
def r_api_Message_h6h7 : Rep (api_Message × Go.Value × Go.Value) := Rep.iso p_api_Message_h6h7 c_api_Message_h6h7
theorem lay_api_Message_h6h7 : r_api_Message_h6h7.Lay 8 true := Lay.iso (f := p_api_Message_h6h7) (π := c_api_Message_h6h7) (Lay.cons (Lay.int _) (Lay.cons (Lay.int _) (Lay.cons (Lay.int _) (Lay.cons (Lay.int _) (Lay.cons (Lay.int _) (Lay.cons (Lay.int _) (Lay.cons Lay.slv (Lay.cons Lay.slv Lay.nilS))))))))
theorem hf_api_Message_h6h7_Kind : HasF r_api_Message_h6h7 0 (Rep.int .i64) (fun q => q.1.Kind) := HasF.iso (f := p_api_Message_h6h7) (π := c_api_Message_h6h7) (HasF.head _ _)
theorem hf_api_Message_h6h7_From : HasF r_api_Message_h6h7 1 (Rep.int .i64) (fun q => q.1.From) := HasF.iso (f := p_api_Message_h6h7) (π := c_api_Message_h6h7) (HasF.tail (Lay.int _) (HasF.head _ _))
theorem hf_api_Message_h6h7_To : HasF r_api_Message_h6h7 2 (Rep.int .i64) (fun q => q.1.To) := HasF.iso (f := p_api_Message_h6h7) (π := c_api_Message_h6h7) (HasF.tail (Lay.int _) (HasF.tail (Lay.int _) (HasF.head _ _)))
theorem hf_api_Message_h6h7_Number : HasF r_api_Message_h6h7 3 (Rep.int .i64) (fun q => q.1.Number) := HasF.iso (f := p_api_Message_h6h7) (π := c_api_Message_h6h7) (HasF.tail (Lay.int _) (HasF.tail (Lay.int _) (HasF.tail (Lay.int _) (HasF.head _ _))))
theorem hf_api_Message_h6h7_Value : HasF r_api_Message_h6h7 4 (Rep.int .i64) (fun q => q.1.Value) := HasF.iso (f := p_api_Message_h6h7) (π := c_api_Message_h6h7) (HasF.tail (Lay.int _) (HasF.tail (Lay.int _) (HasF.tail (Lay.int _) (HasF.tail (Lay.int _) (HasF.head _ _)))))
theorem hf_api_Message_h6h7_Epoch : HasF r_api_Message_h6h7 5 (Rep.int .i64) (fun q => q.1.Epoch) := HasF.iso (f := p_api_Message_h6h7) (π := c_api_Message_h6h7) (HasF.tail (Lay.int _) (HasF.tail (Lay.int _) (HasF.tail (Lay.int _) (HasF.tail (Lay.int _) (HasF.tail (Lay.int _) (HasF.head _ _))))))
theorem hf_api_Message_h6h7_Values : HasF r_api_Message_h6h7 6 Rep.slv (fun q => q.2.1) := HasF.iso (f := p_api_Message_h6h7) (π := c_api_Message_h6h7) (HasF.tail (Lay.int _) (HasF.tail (Lay.int _) (HasF.tail (Lay.int _) (HasF.tail (Lay.int _) (HasF.tail (Lay.int _) (HasF.tail (Lay.int _) (HasF.head _ _)))))))
theorem hf_api_Message_h6h7_Body : HasF r_api_Message_h6h7 7 Rep.slv (fun q => q.2.2) := HasF.iso (f := p_api_Message_h6h7) (π := c_api_Message_h6h7) (HasF.tail (Lay.int _) (HasF.tail (Lay.int _) (HasF.tail (Lay.int _) (HasF.tail (Lay.int _) (HasF.tail (Lay.int _) (HasF.tail (Lay.int _) (HasF.tail Lay.slv (HasF.head _ _))))))))
theorem ty_api_Message_h6h7 : Ty Try.prog 28 r_api_Message_h6h7 8 true := ⟨⟨_, inf Try.type28, rfl⟩, ⟨_, Try.underlying28, rfl⟩, lay_api_Message_h6h7⟩
theorem z_api_Message_h6h7 : Zero Try.prog 28 r_api_Message_h6h7 ((⟨0, 0, 0, 0, 0, 0, [], []⟩ : api_Message), ((.slice none 0 0 : Go.Value), (.slice none 0 0 : Go.Value))) := Go.J.Zero.mk (inf Try.type28) rfl fun _ => (show c_api_Message_h6h7.rd _ _ (p_api_Message_h6h7 _) from ⟨(.int .i64 0), #[(.int .i64 0), (.int .i64 0), (.int .i64 0), (.int .i64 0), (.int .i64 0), (.slice none 0 0), (.slice none 0 0)], rfl, ⟨(.int .i64 0), #[(.int .i64 0), (.int .i64 0), (.int .i64 0), (.int .i64 0), (.slice none 0 0), (.slice none 0 0)], rfl, ⟨(.int .i64 0), #[(.int .i64 0), (.int .i64 0), (.int .i64 0), (.slice none 0 0), (.slice none 0 0)], rfl, ⟨(.int .i64 0), #[(.int .i64 0), (.int .i64 0), (.slice none 0 0), (.slice none 0 0)], rfl, ⟨(.int .i64 0), #[(.int .i64 0), (.slice none 0 0), (.slice none 0 0)], rfl, ⟨(.int .i64 0), #[(.slice none 0 0), (.slice none 0 0)], rfl, ⟨(.slice none 0 0), #[(.slice none 0 0)], ⟨rfl, _, _, _, rfl⟩, ⟨(.slice none 0 0), #[], ⟨rfl, _, _, _, rfl⟩, rfl, rfl⟩, rfl⟩, rfl⟩, rfl⟩, rfl⟩, rfl⟩, rfl⟩, rfl⟩)
theorem sg_api_Message_h6h7__api_Message_h6h7__3 : SetG r_api_Message_h6h7 r_api_Message_h6h7 3 (Rep.int .i64) (fun q y => ((⟨q.1.Kind, q.1.From, q.1.To, y, q.1.Value, q.1.Epoch, [], []⟩ : api_Message), (q.2.1, q.2.2))) := (SetG.iso (f := p_api_Message_h6h7) (f' := p_api_Message_h6h7) (k := u_api_Message_h6h7) (fun _ => rfl) (π := c_api_Message_h6h7) (π' := c_api_Message_h6h7) (SetG.tail (Lay.int _) (SetG.tail (Lay.int _) (SetG.tail (Lay.int _) (SetG.head (Lay.int _) (Lay.int _)) agg_cons) agg_cons) agg_cons))
theorem sg_api_Message_h6h7__api_Message_h6h7__2 : SetG r_api_Message_h6h7 r_api_Message_h6h7 2 (Rep.int .i64) (fun q y => ((⟨q.1.Kind, q.1.From, y, q.1.Number, q.1.Value, q.1.Epoch, [], []⟩ : api_Message), (q.2.1, q.2.2))) := (SetG.iso (f := p_api_Message_h6h7) (f' := p_api_Message_h6h7) (k := u_api_Message_h6h7) (fun _ => rfl) (π := c_api_Message_h6h7) (π' := c_api_Message_h6h7) (SetG.tail (Lay.int _) (SetG.tail (Lay.int _) (SetG.head (Lay.int _) (Lay.int _)) agg_cons) agg_cons))
theorem sg_api_Message_h6h7__api_Message_h6h7__1 : SetG r_api_Message_h6h7 r_api_Message_h6h7 1 (Rep.int .i64) (fun q y => ((⟨q.1.Kind, y, q.1.To, q.1.Number, q.1.Value, q.1.Epoch, [], []⟩ : api_Message), (q.2.1, q.2.2))) := (SetG.iso (f := p_api_Message_h6h7) (f' := p_api_Message_h6h7) (k := u_api_Message_h6h7) (fun _ => rfl) (π := c_api_Message_h6h7) (π' := c_api_Message_h6h7) (SetG.tail (Lay.int _) (SetG.head (Lay.int _) (Lay.int _)) agg_cons))
theorem sg_api_Message_h6h7__api_Message_h6h7__0 : SetG r_api_Message_h6h7 r_api_Message_h6h7 0 (Rep.int .i64) (fun q y => ((⟨y, q.1.From, q.1.To, q.1.Number, q.1.Value, q.1.Epoch, [], []⟩ : api_Message), (q.2.1, q.2.2))) := (SetG.iso (f := p_api_Message_h6h7) (f' := p_api_Message_h6h7) (k := u_api_Message_h6h7) (fun _ => rfl) (π := c_api_Message_h6h7) (π' := c_api_Message_h6h7) (SetG.head (Lay.int _) (Lay.int _)))
theorem sg_api_Message_h6h7__api_Message_h6h7__6 : SetG r_api_Message_h6h7 r_api_Message_h6h7 6 Rep.slv (fun q y => ((⟨q.1.Kind, q.1.From, q.1.To, q.1.Number, q.1.Value, q.1.Epoch, [], []⟩ : api_Message), (y, q.2.2))) := (SetG.iso (f := p_api_Message_h6h7) (f' := p_api_Message_h6h7) (k := u_api_Message_h6h7) (fun _ => rfl) (π := c_api_Message_h6h7) (π' := c_api_Message_h6h7) (SetG.tail (Lay.int _) (SetG.tail (Lay.int _) (SetG.tail (Lay.int _) (SetG.tail (Lay.int _) (SetG.tail (Lay.int _) (SetG.tail (Lay.int _) (SetG.head Lay.slv Lay.slv) agg_cons) agg_cons) agg_cons) agg_cons) agg_cons) agg_cons))
theorem sg_api_Message_h6h7__api_Message_h6h7__7 : SetG r_api_Message_h6h7 r_api_Message_h6h7 7 Rep.slv (fun q y => ((⟨q.1.Kind, q.1.From, q.1.To, q.1.Number, q.1.Value, q.1.Epoch, [], []⟩ : api_Message), (q.2.1, y))) := (SetG.iso (f := p_api_Message_h6h7) (f' := p_api_Message_h6h7) (k := u_api_Message_h6h7) (fun _ => rfl) (π := c_api_Message_h6h7) (π' := c_api_Message_h6h7) (SetG.tail (Lay.int _) (SetG.tail (Lay.int _) (SetG.tail (Lay.int _) (SetG.tail (Lay.int _) (SetG.tail (Lay.int _) (SetG.tail (Lay.int _) (SetG.tail Lay.slv (SetG.head Lay.slv Lay.slv) agg_cons) agg_cons) agg_cons) agg_cons) agg_cons) agg_cons) agg_cons))
end Go.Proofs.Ytogflgcngfghpaa
end

/- function 88 -/
section
set_option maxHeartbeats 4000000
set_option linter.unusedVariables false
set_option linter.unusedSimpArgs false
namespace Go.Proofs.Ytogflgcngfghpaa
open Go.J
def f_checksum_digest (a0 : List Int) : Option (Int) :=
  (eachN (σ := Int) (fun x4 s2 => some (Rd.next (IntKind.u64.wrap ((xorI .u64 s2 (IntKind.u64.wrap x4)) * 1099511628211)))) a0 14695981039346656037).bind fun so5 => (shrI .u64 so5 32).bind fun x10 => some (xorI .u64 so5 x10)

theorem c_checksum_digest {a0 : List Int} {r : Int} (h : f_checksum_digest a0 = some r) : Ct Try.prog 88 [(Rep.iter Try.prog (Rep.int .u8)).at a0] [] (fun _ : Unit => (Rep.int .u64).at r) (fun _ => []) := by
  refine Ct.mkM Try.func88 rfl Try.ntmps88 (by simp) fun I R => ?_
  refine J.drop0 ?_
  unfold f_checksum_digest at h
  refine J_seq ?_
  refine J_region ?_
  refine JLp (T_assign rfl) rfl (nofun) .none ?_
  refine JL_nil ?_
  refine KJ_nrm_then (KJ_J ?_)
  refine J_seq ?_
  refine J_region ?_
  refine JLa (T_alloc z73 (Lay.int _)) rfl .none fun b1 => ?_
  refine JLn1 (T_store ty73 rfl (.mk rfl) (SetF.self (Lay.int _))) .none ?_
  refine JL_nil ?_
  refine KJ_nrm_then (KJ_J ?_)
  refine J_seq ?_
  refine J_seq ?_
  refine J_region ?_
  refine JLp (T_move rfl) rfl (nofun) .none ?_
  refine JL_nil ?_
  refine KJ_nrm_then (KJ_J ?_)
  replace h := bnd h; obtain ⟨so5, ho6, h⟩ := h
  refine J_rforN ho6 [(3, Rep.ptr.at (b1, 0)), (5, (Rep.iter Try.prog (Rep.int .u8)).at a0)] (fun x4 (gx : Unit) => [(3, Rep.ptr.at (b1, 0)), (5, (Rep.iter Try.prog (Rep.int .u8)).at a0), (4, (Rep.int .u8).at x4)]) (fun x4 gx => []) (fun (s2 : Int) (g3 : Unit) => [Ent.box b1 (Rep.int .u64) s2]) () rfl (.mk rfl) (.cons rfl (.cons rfl (.nil _))) rfl rfl ?_ ?_ ?_
  · intro l I1 R1 x4 s2 g3
    refine J_region ?_
    refine JLp (T_assign rfl) rfl (nofun) .none ?_
    refine JL_nil ?_
    exact KJ_rfa () (.cons rfl (.cons rfl (.cons rfl (.nil _)))) rfl
  · intro l I1 R1 x4 gx s2 g3 st8 hb7
    refine J_block ?_
    refine J_region ?_
    refine JLp (T_loadw ty73 rfl) rfl B0 .none ?_
    refine JLp (T_move rfl) rfl (nofun) .none ?_
    refine JLp (T_conv rfl Try.underlying5 Try.underlying73) rfl (nofun) .none ?_
    refine JLp (T_xor rfl rfl) rfl (nofun) .none ?_
    refine JLp (T_mul rfl rfl) rfl (nofun) .none ?_
    refine JLn1 (T_store ty73 rfl (.mk rfl) (SetF.self (Lay.int _))) .none ?_
    refine JL_nil ?_
    refine KJ_nrm_blk ?_
    exact KJ_rq (IntKind.u64.wrap ((xorI .u64 s2 (IntKind.u64.wrap x4)) * 1099511628211)) () (inj hb7) rfl
  · intro r9 g3
    refine KJ_nrm_then (KJ_J ?_)
    refine J_seq ?_
    refine J_region ?_
    refine JLp (T_loadw ty73 rfl) rfl B1 .none ?_
    refine JLp (T_loadw ty73 rfl) rfl B1 .none ?_
    replace h := bnd h; obtain ⟨x10, hx10, h⟩ := h
    refine JLp (T_shr rfl rfl hx10) rfl (nofun) .none ?_
    refine JLp (T_xor rfl rfl) rfl (nofun) .none ?_
    refine JLp (T_assign rfl) rfl (nofun) .none ?_
    refine JL_nil ?_
    refine KJ_nrm_then (KJ_J ?_)
    refine J_ret ?_
    obtain rfl := inj h
    exact KJ_retM1 (M := [Ent.mark r9]) (J := [Ent.box b1 (Rep.int .u64) so5]) () (marks.cons marks.nil) rfl Try.results88 (.tmp (.mk rfl) Rv.nil) rfl
end Go.Proofs.Ytogflgcngfghpaa
end

/- function 99 -/
section
set_option maxHeartbeats 4000000
set_option linter.unusedVariables false
set_option linter.unusedSimpArgs false
namespace Go.Proofs.Ytogflgcngfghpaa
open Go.J
def f_checksum_Digest_1 (a1 : List Int) : Option (List Int) :=
  Option.map Prod.fst (α := List Int × Unit) (thenP (rangeW (σ := Unit) (ρ := Unit) (β := Int) (fun i13 x17 s1 => emitP x17 (some ([], Rd.next ()))) a1 0 ()) fun s1 => some ([], ()))

theorem c_checksum_Digest_1 {a1 : List Int} {xs : List Int} (h : f_checksum_Digest_1 a1 = some xs) : ItFn Try.prog 99 [(Rep.iptr (Rep.sl (Rep.int .u8) 1)).at a1] (Rep.int .u8) xs := by
  refine ItFn.mk Try.func99 rfl rfl Try.ntmps99 (by simp) fun l S D hR I O R hS => ?_
  unfold f_checksum_Digest_1 at h
  replace h := Option.map_eq_some_iff.1 h
  obtain ⟨⟨ys, u⟩, h, rfl⟩ := h
  replace hS : S (ys ++ []) O := by simpa using hS
  refine J_seq ?_
  refine J_region ?_
  refine JLp (T_load ty26 rfl) rfl (nofun) .none ?_
  refine JLp (T_len (ρ := (Rep.int .u8)) sl26 (.mk rfl)) rfl (nofun) .none ?_
  refine JLp (T_move rfl) rfl (nofun) .none ?_
  refine JL_nil ?_
  refine KJ_nrm_then (KJ_J ?_)
  replace h := thenP_some h
  obtain ⟨z5, o3, ho4, tl6, rfl, h⟩ := h
  rw [List.append_assoc] at hS
  refine J_cutw (out := o3) S (tl6 ++ []) (fun (s1 : Unit) => []) (fun s1 C => (C ++ R)) ?_ ?_
  · refine J_block ?_
    refine J_lim (ρ := (Rep.int .u8)) (n := 1) (l := a1) (x := .tmp 5) (.mk rfl) fun hl => ?_
    refine J_rangeW ho4 (tl6 ++ []) S hS hl (fun i13 (s1 : Unit) => [(0, Pr.yield l), (5, (Rep.sl (Rep.int .u8) 1).at a1), (6, (Rep.int .i64).at (a1.length : Int)), (7, (Rep.int .i64).at i13)]) (fun i13 s1 C => (C ++ R)) (.cons rfl (.cons rfl (.cons rfl (.cons rfl (.nil _))))) rfl ?_ ?_
    · intro s1 C10 hgo hS
      refine J_seq (J_region (JLp (T_lss rfl rfl) rfl (nofun) .none (JL_nil (KJ_nrm_then (KJ_J ?_)))))
      refine J_seq (J_test rfl (fun hp => absurd (of_decide_eq_true hp) (by omega)) (fun _ => J_exit (KJ_exit_then (KJ_exit_then (KJ_exit_here ?_)))))
      exact KJ_otw s1 hgo hS (.nil _) rfl
    · intro i13 x17 s1 C10 st9 y11 zv12 hi14 hj15 hx18 hw16 hb7 hf8 hS
      refine J_seq (J_region (JLp (T_lss rfl rfl) rfl (nofun) .none (JL_nil (KJ_nrm_then (KJ_J ?_)))))
      refine J_seq (J_test rfl (fun _ => J_skip (KJ_nrm_then (KJ_J ?_))) (fun hp => absurd hj15 (of_decide_eq_false hp)))
      refine J_seq ?_
      refine J_block ?_
      refine J_seq ?_
      refine J_region ?_
      refine JLp (T_ix sl26 (.mk rfl) rfl hx18) rfl (nofun) .none ?_
      refine JLp (T_load ty5 rfl) rfl (nofun) .none ?_
      refine JLp (T_assign rfl) rfl (nofun) .none ?_
      refine JL_nil ?_
      refine KJ_nrm_then (KJ_J ?_)
      refine J_seq ?_
      refine J_region ?_
      refine JLp (T_move rfl) rfl (nofun) .none ?_
      refine JLp (T_move rfl) rfl (nofun) .none ?_
      replace hb7 := emitP_some hb7
      obtain ⟨ys19, rfl, hb7⟩ := hb7
      refine JLe (κ := C10) (T_yield (v := x17) (rest := ys19 ++ zv12) hR hS rfl (.mk rfl)) rfl .none fun q22 => ?_
      obtain ⟨⟨b20, C21⟩, hq221, hq222⟩ := q22
      refine JLp (T_not rfl) rfl (nofun) .none ?_
      refine JL_nil ?_
      refine KJ_nrm_then (KJ_J ?_)
      refine J_test rfl (fun hq23 => ?_) (fun hq23 => ?_)
      · refine J_ret ?_
        refine KJ_ret_blk ?_
        refine KJ_ret_then ?_
        refine KJ_ret_then ?_
        refine KJ_ret_blk ?_
        refine KJ_ret_kq ?_
        exact KJ_reti rfl Try.results99 (.inr (hq222 (by simpa using hq23)))
      · have hS := hq221 (by simpa using hq23)
        refine J_skip ?_
        refine KJ_nrm_blk ?_
        refine KJ_nrm_then (KJ_J ?_)
        refine J_region ?_
        refine JLp (T_addw rfl rfl hw16) rfl (nofun) .none ?_
        refine JLp (T_move rfl) rfl (nofun) .none ?_
        refine JL_nil ?_
        refine KJ_nrm_then ?_
        obtain ⟨rfl, rfl⟩ := injP hb7
        exact KJ_nxw () rfl hS (.cons rfl (.cons rfl (.cons rfl (.cons rfl (.nil _))))) rfl
  · intro s1 C24 hs hS
    subst hs
    replace h : _ = some _ := h
    refine KJ_end_body ?_
    obtain ⟨rfl, _⟩ := injP h
    exact KJ_reti rfl Try.results99 (.inl hS)
end Go.Proofs.Ytogflgcngfghpaa
end

/- function 94 -/
section
set_option maxHeartbeats 4000000
set_option linter.unusedVariables false
set_option linter.unusedSimpArgs false
namespace Go.Proofs.Ytogflgcngfghpaa
open Go.J
def f_checksum_Digest (a0 : List Int) : Option (Int) :=
  (f_checksum_Digest_1 a0).bind fun x1 => (f_checksum_digest x1).bind fun x2 => some x2

theorem c_checksum_Digest {a0 : List Int} {r : Int} (h : f_checksum_Digest a0 = some r) : Ct Try.prog 94 [(Rep.sl (Rep.int .u8) 1).at a0] [] (fun _ : Unit => (Rep.int .u64).at r) (fun _ => []) := by
  refine Ct.mk Try.func94 rfl Try.ntmps94 (by simp) fun I R => ?_
  refine J.drop0 ?_
  unfold f_checksum_Digest at h
  refine J_seq ?_
  refine J_region ?_
  refine JLe0 (T_box (ρ := (Rep.sl (Rep.int .u8) 1)) (.mk rfl)) rfl .none ?_
  refine JLp (T_assign rfl) rfl (nofun) .none ?_
  refine JL_nil ?_
  refine KJ_nrm_then (KJ_J ?_)
  refine J_seq ?_
  refine J_region ?_
  replace h := bnd h; obtain ⟨x1, hx1, h⟩ := h
  refine JLp (T_mkit (c_checksum_Digest_1 hx1) ⟨.mk rfl, trivial⟩) rfl (nofun) .none ?_
  replace h := bnd h; obtain ⟨x2, hx2, h⟩ := h
  refine JLe0 (T_call ⟨_, Try.func88, rfl, rfl⟩ (c_checksum_digest hx2) ⟨(.mk rfl), trivial⟩) rfl .none ?_
  refine JLp (T_assign rfl) rfl (nofun) .none ?_
  refine JL_nil ?_
  refine KJ_nrm_then (KJ_J ?_)
  refine J_ret ?_
  obtain rfl := inj h
  exact KJ_ret1' Try.results94 (.tmp (.mk rfl) Rv.nil) rfl rfl
end Go.Proofs.Ytogflgcngfghpaa
end

/- function 86 -/
section
set_option maxHeartbeats 4000000
set_option linter.unusedVariables false
set_option linter.unusedSimpArgs false
namespace Go.Proofs.Ytogflgcngfghpaa
open Go.J
def f_checksum_Pair (a0 : Int) (a1 : Int) : Option (Int) :=
  (capN 8 (countF (σ := List Int) (ρ := Int) (fun i9 s2 => (shrI .u64 a0 (IntKind.i64.wrap (8 * i9))).bind fun x13 => (shrI .u64 a1 (IntKind.i64.wrap (8 * i9))).bind fun x14 => (inB 16 i9).bind fun x15 => (inB 16 (IntKind.i64.wrap (8 + i9))).bind fun x16 => some (Rd.next (setI (setI s2 i9 (IntKind.u8.wrap x13)) (IntKind.i64.wrap (8 + i9)) (IntKind.u8.wrap x14)))) ((8 : Int) - 0).toNat 0 (List.replicate 16 0))).bind fun o4 => o4.then fun s2 => (f_checksum_Digest s2).bind fun x17 => some x17

theorem c_checksum_Pair {a0 : Int} {a1 : Int} {r : Int} (h : f_checksum_Pair a0 a1 = some r) : Ct Try.prog 86 [(Rep.int .u64).at a0, (Rep.int .u64).at a1] [] (fun _ : Unit => (Rep.int .u64).at r) (fun _ => []) := by
  refine Ct.mk Try.func86 rfl Try.ntmps86 (by simp) fun I R => ?_
  refine J.drop0 ?_
  unfold f_checksum_Pair at h
  refine J_seq ?_
  refine J_region ?_
  refine JLp (T_assign rfl) rfl (nofun) .none ?_
  refine JL_nil ?_
  refine KJ_nrm_then (KJ_J ?_)
  refine J_seq ?_
  refine J_region ?_
  refine JLa (T_alloc z153 (Lay.arr (Lay.int _))) rfl .none fun b1 => ?_
  refine JL_nil ?_
  refine KJ_nrm_then (KJ_J ?_)
  refine J_seq ?_
  refine J_seq ?_
  refine J_region ?_
  refine JLp (T_move rfl) rfl (nofun) .none ?_
  refine JL_nil ?_
  refine KJ_nrm_then (KJ_J ?_)
  replace h := bnd h; obtain ⟨o4, ho5, h⟩ := h
  have ho5c := capN_some ho5
  refine J_cuto o4 (fun (s2 : List Int) (g3 : Unit) => [(5, Rep.ptr.at (b1, 0))]) (fun s2 g3 => Ent.box b1 (Rep.arr (Rep.int .u8) 1 16) s2 :: R) ?_ ?_
  · refine J_block ?_
    refine J_count (n := 8) ho5c.2 (by decide) ho5c.1 (fun i9 (s2 : List Int) (g3 : Unit) => [(0, (Rep.int .u64).at a0), (1, (Rep.int .u64).at a1), (5, Rep.ptr.at (b1, 0)), (7, (Rep.int .i64).at i9)]) (fun i9 s2 g3 => Ent.box b1 (Rep.arr (Rep.int .u8) 1 16) s2 :: R) () (.cons rfl (.cons rfl (.cons rfl (.cons rfl (.nil _))))) rfl ?_ ?_
    · intro i9 s2 g3 hi ho5n
      refine J_seq (J_region (JLp (T_lss rfl rfl) rfl (nofun) .none (JL_nil (KJ_nrm_then (KJ_J ?_)))))
      refine J_seq (J_test rfl (fun hp => absurd (of_decide_eq_true hp) (by omega)) (fun _ => J_exit (KJ_exit_then (KJ_exit_then (KJ_exit_here (KJ_nrm_kq ?_))))))
      exact KJ_ot s2 g3 ho5n (.cons rfl (.nil _)) rfl
    · intro i9 s2 g3 st8 hi10 hj11 hw12 hb6 hf7
      refine J_seq (J_region (JLp (T_lss rfl rfl) rfl (nofun) .none (JL_nil (KJ_nrm_then (KJ_J ?_)))))
      refine J_seq (J_test rfl (fun _ => J_skip (KJ_nrm_then (KJ_J ?_))) (fun hp => absurd hj11 (of_decide_eq_false hp)))
      refine J_seq ?_
      refine J_block ?_
      refine J_seq ?_
      refine J_region ?_
      refine JLp (T_move rfl) rfl (nofun) .none ?_
      refine JLp (T_assign rfl) rfl (nofun) .none ?_
      refine JL_nil ?_
      refine KJ_nrm_then (KJ_J ?_)
      replace hb6 := bnd hb6; obtain ⟨x13, hx13, hb6⟩ := hb6
      replace hb6 := bnd hb6; obtain ⟨x14, hx14, hb6⟩ := hb6
      replace hb6 := bnd hb6; obtain ⟨x15, hx15, hb6⟩ := hb6
      refine J_drawR (Ks := [Ent.box b1 (Rep.arr (Rep.int .u8) 1 16) s2]) rfl (by kernel_rfl) fun K hK => ?_
      refine DR.p (.base (t := 6) rfl .nil) (T_move rfl) .none rfl rfl (nofun) ?_
      refine DR.p (.base (t := 6) rfl .nil) (T_move rfl) .none rfl rfl (nofun) ?_
      refine DR.p (.dep 1 0 rfl rfl rfl .nil) (T_add rfl rfl) .none rfl rfl (nofun) ?_
      refine DR.p (.base (t := 0) rfl .nil) (T_move rfl) .none rfl rfl (nofun) ?_
      refine DR.p (.base (t := 6) rfl .nil) (T_move rfl) .none rfl rfl (nofun) ?_
      refine DR.p (.dep 4 0 rfl rfl rfl .nil) (T_mul rfl rfl) .none rfl rfl (nofun) ?_
      refine DR.p (.dep 3 2 rfl rfl rfl (.dep 5 0 rfl rfl rfl .nil)) (T_shr rfl rfl hx13) .none rfl rfl (nofun) ?_
      refine DR.p (.dep 6 0 rfl rfl rfl .nil) (T_conv rfl Try.underlying73 Try.underlying5) .none rfl rfl (nofun) ?_
      refine DR.p (.base (t := 1) rfl .nil) (T_move rfl) .none rfl rfl (nofun) ?_
      refine DR.p (.base (t := 6) rfl .nil) (T_move rfl) .none rfl rfl (nofun) ?_
      refine DR.p (.dep 9 0 rfl rfl rfl .nil) (T_mul rfl rfl) .none rfl rfl (nofun) ?_
      refine DR.p (.dep 8 2 rfl rfl rfl (.dep 10 0 rfl rfl rfl .nil)) (T_shr rfl rfl hx14) .none rfl rfl (nofun) ?_
      refine DR.p (.dep 11 0 rfl rfl rfl .nil) (T_conv rfl Try.underlying73 Try.underlying5) .none rfl rfl (nofun) ?_
      refine DR.p (.base (t := 5) rfl (.dep 0 12 rfl rfl rfl .nil)) (T_ixb ar153 (by decide) rfl rfl hx15) .none rfl rfl (nofun) ?_
      refine DR.w (κ := [Ent.box b1 (Rep.arr (Rep.int .u8) 1 16) s2]) (ε := [Ent.box b1 (Rep.arr (Rep.int .u8) 1 16) (setI s2 i9 (IntKind.u8.wrap x13))]) (.dep 13 0 rfl rfl rfl (.dep 7 6 rfl rfl rfl .nil)) (T_storea (i := i9) ty5 rfl (.mk rfl) hx15) .none ?_
      refine DR.tail (by kernel_rfl) (.refl _) rfl ?_
      simp only [List.reverse_cons, List.reverse_nil, List.nil_append, List.cons_append, DT]
      replace hb6 := bnd hb6; obtain ⟨x16, hx16, hb6⟩ := hb6
      refine JLp (T_ixb ar153 (by decide) rfl rfl hx16) rfl (nofun) .none ?_
      refine JLn1 (T_storea (i := IntKind.i64.wrap (8 + i9)) ty5 rfl (.mk rfl) hx16) .none ?_
      refine JL_nil (KJ_hid hK ?_)
      refine KJ_nrm_blk ?_
      refine KJ_nrm_then (KJ_J ?_)
      refine J_region ?_
      refine JLp (T_addw rfl rfl hw12) rfl (nofun) .none ?_
      refine JLp (T_move rfl) rfl (nofun) .none ?_
      refine JL_nil ?_
      refine KJ_nrm_then ?_
      exact KJ_nx (setI (setI s2 i9 (IntKind.u8.wrap x13)) (IntKind.i64.wrap (8 + i9)) (IntKind.u8.wrap x14)) () (inj hb6) (.cons rfl (.cons rfl (.cons rfl (.cons rfl (.nil _))))) rfl
  · intro s2 g3 hs
    subst hs
    replace h := thn h
    refine KJ_nrm_then (KJ_J ?_)
    refine J_seq ?_
    refine J_region ?_
    refine JLf1 (T_slicea ar153 (by decide) (by decide) rfl) rfl .none ?_
    replace h := bnd h; obtain ⟨x17, hx17, h⟩ := h
    refine JLe0 (T_call ⟨_, Try.func94, rfl, rfl⟩ (c_checksum_Digest hx17) ⟨(.mk rfl), trivial⟩) rfl .none ?_
    refine JLp (T_assign rfl) rfl (nofun) .none ?_
    refine JL_nil ?_
    refine KJ_nrm_then (KJ_J ?_)
    refine J_ret ?_
    obtain rfl := inj h
    exact KJ_ret1' Try.results86 (.tmp (.mk rfl) Rv.nil) rfl rfl
end Go.Proofs.Ytogflgcngfghpaa
end

/- function 82 -/
section
set_option maxHeartbeats 4000000
set_option linter.unusedVariables false
set_option linter.unusedSimpArgs false
namespace Go.Proofs.Ytogflgcngfghpaa
open Go.J
def f_ref04_Digest (a0 : List Int) : Option (Int) :=
  (whileF (σ := Int × Int) (ρ := Int) (fun s1 => if (decide (s1.2 < (a0.length : Int))) = true then (idx a0 s1.2).bind fun x9 => some (Rd.next (IntKind.u64.wrap ((xorI .u64 s1.1 (IntKind.u64.wrap x9)) * 1099511628211), IntKind.i64.wrap (s1.2 + 1))) else some (Rd.done (s1.1, s1.2))) bigK (14695981039346656037, 0)).bind fun o3 => o3.then fun s1 => (shrI .u64 s1.1 32).bind fun x10 => some (xorI .u64 s1.1 x10)

theorem c_ref04_Digest {a0 : List Int} {r : Int} (h : f_ref04_Digest a0 = some r) : Ct Try.prog 82 [(Rep.sl (Rep.int .u8) 1).at a0] [] (fun _ : Unit => (Rep.int .u64).at r) (fun _ => []) := by
  refine Ct.mk Try.func82 rfl Try.ntmps82 (by simp) fun I R => ?_
  refine J.drop0 ?_
  unfold f_ref04_Digest at h
  refine J_seq ?_
  refine J_region ?_
  refine JLp (T_assign rfl) rfl (nofun) .none ?_
  refine JL_nil ?_
  refine KJ_nrm_then (KJ_J ?_)
  refine J_seq ?_
  refine J_region ?_
  refine JLp (T_assign rfl) rfl (nofun) .none ?_
  refine JL_nil ?_
  refine KJ_nrm_then (KJ_J ?_)
  refine J_seq ?_
  refine J_seq ?_
  refine J_region ?_
  refine JLp (T_assign rfl) rfl (nofun) .none ?_
  refine JL_nil ?_
  refine KJ_nrm_then (KJ_J ?_)
  replace h := bnd h; obtain ⟨o3, ho4, h⟩ := h
  refine J_cuto o3 (fun (s1 : Int × Int) (g2 : Unit) => [(3, (Rep.int .u64).at s1.1)]) (fun s1 g2 => R) ?_ ?_
  · refine J_block ?_
    refine J_while ho4 (fun (s1 : Int × Int) (g2 : Unit) => [(0, (Rep.sl (Rep.int .u8) 1).at a0), (3, (Rep.int .u64).at s1.1), (4, (Rep.int .i64).at s1.2)]) (fun s1 g2 => R) () (.cons rfl (.cons rfl (.cons rfl (.nil _)))) rfl ?_
    intro s1 g2 st7 hb5 hf6
    refine J_seq ?_
    refine J_seq ?_
    refine J_region ?_
    refine JLp (T_move rfl) rfl (nofun) .none ?_
    refine JLp (T_move rfl) rfl (nofun) .none ?_
    refine JLp (T_len (ρ := (Rep.int .u8)) sl26 (.mk rfl)) rfl (nofun) .none ?_
    refine JLp (T_lss rfl rfl) rfl (nofun) .none ?_
    refine JL_nil ?_
    refine KJ_nrm_then (KJ_J ?_)
    refine J_test rfl (fun hq8 => ?_) (fun hq8 => ?_)
    · replace hb5 := ift hq8 hb5
      refine J_skip ?_
      refine KJ_nrm_then (KJ_J ?_)
      refine J_seq ?_
      refine J_block ?_
      refine J_region ?_
      refine JLp (T_move rfl) rfl (nofun) .none ?_
      refine JLp (T_move rfl) rfl (nofun) .none ?_
      refine JLp (T_move rfl) rfl (nofun) .none ?_
      replace hb5 := bnd hb5; obtain ⟨x9, hx9, hb5⟩ := hb5
      refine JLp (T_ix sl26 (.mk rfl) rfl hx9) rfl (nofun) .none ?_
      refine JLp (T_load ty5 rfl) rfl (nofun) .none ?_
      refine JLp (T_conv rfl Try.underlying5 Try.underlying73) rfl (nofun) .none ?_
      refine JLp (T_xor rfl rfl) rfl (nofun) .none ?_
      refine JLp (T_mul rfl rfl) rfl (nofun) .none ?_
      refine JLp (T_assign rfl) rfl (nofun) .none ?_
      refine JL_nil ?_
      refine KJ_nrm_blk ?_
      refine KJ_nrm_then (KJ_J ?_)
      refine J_region ?_
      refine JLp (T_move rfl) rfl (nofun) .none ?_
      refine JLp (T_add rfl rfl) rfl (nofun) .none ?_
      refine JLp (T_assign rfl) rfl (nofun) .none ?_
      refine JL_nil ?_
      refine KJ_nrm_then ?_
      exact KJ_nx (IntKind.u64.wrap ((xorI .u64 s1.1 (IntKind.u64.wrap x9)) * 1099511628211), IntKind.i64.wrap (s1.2 + 1)) () (inj hb5) (.cons rfl (.cons rfl (.cons rfl (.nil _)))) rfl
    · replace hb5 := iff_ hq8 hb5
      refine J_exit ?_
      refine KJ_exit_then ?_
      refine KJ_exit_then ?_
      refine KJ_exit_here ?_
      refine KJ_nrm_kq ?_
      obtain rfl := inj hb5
      exact KJ_ot (s1.1, s1.2) () hf6 (.cons rfl (.nil _)) rfl
  · intro s1 g2 hs
    subst hs
    replace h := thn h
    refine KJ_nrm_then (KJ_J ?_)
    refine J_seq ?_
    refine J_region ?_
    refine JLp (T_move rfl) rfl (nofun) .none ?_
    refine JLp (T_move rfl) rfl (nofun) .none ?_
    replace h := bnd h; obtain ⟨x10, hx10, h⟩ := h
    refine JLp (T_shr rfl rfl hx10) rfl (nofun) .none ?_
    refine JLp (T_xor rfl rfl) rfl (nofun) .none ?_
    refine JLp (T_assign rfl) rfl (nofun) .none ?_
    refine JL_nil ?_
    refine KJ_nrm_then (KJ_J ?_)
    refine J_ret ?_
    obtain rfl := inj h
    exact KJ_ret1' Try.results82 (.tmp (.mk rfl) Rv.nil) rfl rfl
end Go.Proofs.Ytogflgcngfghpaa
end

/- function 93 -/
section
set_option maxHeartbeats 4000000
set_option linter.unusedVariables false
set_option linter.unusedSimpArgs false
namespace Go.Proofs.Ytogflgcngfghpaa
open Go.J
def f_ref04_Pair (a0 : Int) (a1 : Int) : Option (Int) :=
  (whileF (σ := List Int × Int) (ρ := Int) (fun s1 => if (decide (s1.2 < 8)) = true then (shrI .u64 a0 (IntKind.i64.wrap (8 * s1.2))).bind fun x9 => (app 1 s1.1 [IntKind.u8.wrap x9]).bind fun x10 => some (Rd.next (x10, IntKind.i64.wrap (s1.2 + 1))) else some (Rd.done (s1.1, s1.2))) bigK ([], 0)).bind fun o3 => o3.then fun s1 => (whileF (σ := List Int × Int) (ρ := Int) (fun s12 => if (decide (s12.2 < 8)) = true then (shrI .u64 a1 (IntKind.i64.wrap (8 * s12.2))).bind fun x20 => (app 1 s12.1 [IntKind.u8.wrap x20]).bind fun x21 => some (Rd.next (x21, IntKind.i64.wrap (s12.2 + 1))) else some (Rd.done (s12.1, s12.2))) bigK (s1.1, 0)).bind fun o14 => o14.then fun s12 => (f_ref04_Digest s12.1).bind fun x23 => some x23

theorem c_ref04_Pair {a0 : Int} {a1 : Int} {r : Int} (h : f_ref04_Pair a0 a1 = some r) : Ct Try.prog 93 [(Rep.int .u64).at a0, (Rep.int .u64).at a1] [] (fun _ : Unit => (Rep.int .u64).at r) (fun _ => []) := by
  refine Ct.mk Try.func93 rfl Try.ntmps93 (by simp) fun I R => ?_
  refine J.drop0 ?_
  unfold f_ref04_Pair at h
  refine J_seq ?_
  refine J_region ?_
  refine JLp (T_assign rfl) rfl (nofun) .none ?_
  refine JL_nil ?_
  refine KJ_nrm_then (KJ_J ?_)
  refine J_seq ?_
  refine J_region ?_
  refine JLp (T_assign rfl) rfl (nofun) .none ?_
  refine JL_nil ?_
  refine KJ_nrm_then (KJ_J ?_)
  refine J_seq ?_
  refine J_seq ?_
  refine J_region ?_
  refine JLp (T_assign rfl) rfl (nofun) .none ?_
  refine JL_nil ?_
  refine KJ_nrm_then (KJ_J ?_)
  refine J_rownil 5 1 (Rep.int .u8) ?_
  replace h := bnd h; obtain ⟨o3, ho4, h⟩ := h
  refine J_cuto o3 (fun (s1 : List Int × Int) (g2 : Value) => [(1, (Rep.int .u64).at a1), (5, Rep.slv.at g2)]) (fun s1 g2 => Ent.row g2 5 1 (Rep.int .u8) s1.1 :: R) ?_ ?_
  · refine J_block ?_
    refine J_while ho4 (fun (s1 : List Int × Int) (g2 : Value) => [(0, (Rep.int .u64).at a0), (1, (Rep.int .u64).at a1), (5, Rep.slv.at g2), (6, (Rep.int .i64).at s1.2)]) (fun s1 g2 => Ent.row g2 5 1 (Rep.int .u8) s1.1 :: R) (.slice none 0 0) (.cons rfl (.cons rfl (.cons rfl (.cons rfl (.nil _))))) rfl ?_
    intro s1 g2 st7 hb5 hf6
    refine J_seq ?_
    refine J_seq ?_
    refine J_region ?_
    refine JLp (T_move rfl) rfl (nofun) .none ?_
    refine JLp (T_lss rfl rfl) rfl (nofun) .none ?_
    refine JL_nil ?_
    refine KJ_nrm_then (KJ_J ?_)
    refine J_test rfl (fun hq8 => ?_) (fun hq8 => ?_)
    · replace hb5 := ift hq8 hb5
      refine J_skip ?_
      refine KJ_nrm_then (KJ_J ?_)
      refine J_seq ?_
      refine J_block ?_
      refine J_region ?_
      refine JLp (T_move rfl) rfl (nofun) .none ?_
      refine JLp (T_move rfl) rfl (nofun) .none ?_
      refine JLp (T_move rfl) rfl (nofun) .none ?_
      refine JLp (T_mul rfl rfl) rfl (nofun) .none ?_
      replace hb5 := bnd hb5; obtain ⟨x9, hx9, hb5⟩ := hb5
      refine JLp (T_shr rfl rfl hx9) rfl (nofun) .none ?_
      refine JLp (T_conv rfl Try.underlying73 Try.underlying5) rfl (nofun) .none ?_
      refine JLe0 (T_bslice (ρ := (Rep.int .u8)) sl26 (Lay.int _) (.cons (.mk rfl) .nil) rfl (by decide)) rfl .none ?_
      replace hb5 := bnd hb5; obtain ⟨x10, hx10, hb5⟩ := hb5
      refine JLe1 (T_append sl26 ⟨_, (Lay.int _)⟩ (.mk rfl) (.mk rfl) hx10) rfl .none fun g11 => ?_
      refine JLp (T_assign rfl) rfl (nofun) .none ?_
      refine JL_nil ?_
      refine KJ_nrm_blk ?_
      refine KJ_nrm_then (KJ_J ?_)
      refine J_region ?_
      refine JLp (T_move rfl) rfl (nofun) .none ?_
      refine JLp (T_add rfl rfl) rfl (nofun) .none ?_
      refine JLp (T_assign rfl) rfl (nofun) .none ?_
      refine JL_nil ?_
      refine KJ_nrm_then ?_
      exact KJ_nx (x10, IntKind.i64.wrap (s1.2 + 1)) g11 (inj hb5) (.cons rfl (.cons rfl (.cons rfl (.cons rfl (.nil _))))) rfl
    · replace hb5 := iff_ hq8 hb5
      refine J_exit ?_
      refine KJ_exit_then ?_
      refine KJ_exit_then ?_
      refine KJ_exit_here ?_
      refine KJ_nrm_kq ?_
      obtain rfl := inj hb5
      exact KJ_ot (s1.1, s1.2) g2 hf6 (.cons rfl (.cons rfl (.nil _))) rfl
  · intro s1 g2 hs
    subst hs
    replace h := thn h
    refine KJ_nrm_then (KJ_J ?_)
    refine J_seq ?_
    refine J_seq ?_
    refine J_region ?_
    refine JLp (T_assign rfl) rfl (nofun) .none ?_
    refine JL_nil ?_
    refine KJ_nrm_then (KJ_J ?_)
    replace h := bnd h; obtain ⟨o14, ho15, h⟩ := h
    refine J_cuto o14 (fun (s12 : List Int × Int) (g13 : Value) => [(5, Rep.slv.at g13)]) (fun s12 g13 => Ent.row g13 5 1 (Rep.int .u8) s12.1 :: R) ?_ ?_
    · refine J_block ?_
      refine J_while ho15 (fun (s12 : List Int × Int) (g13 : Value) => [(1, (Rep.int .u64).at a1), (5, Rep.slv.at g13), (7, (Rep.int .i64).at s12.2)]) (fun s12 g13 => Ent.row g13 5 1 (Rep.int .u8) s12.1 :: R) g2 (.cons rfl (.cons rfl (.cons rfl (.nil _)))) rfl ?_
      intro s12 g13 st18 hb16 hf17
      refine J_seq ?_
      refine J_seq ?_
      refine J_region ?_
      refine JLp (T_move rfl) rfl (nofun) .none ?_
      refine JLp (T_lss rfl rfl) rfl (nofun) .none ?_
      refine JL_nil ?_
      refine KJ_nrm_then (KJ_J ?_)
      refine J_test rfl (fun hq19 => ?_) (fun hq19 => ?_)
      · replace hb16 := ift hq19 hb16
        refine J_skip ?_
        refine KJ_nrm_then (KJ_J ?_)
        refine J_seq ?_
        refine J_block ?_
        refine J_region ?_
        refine JLp (T_move rfl) rfl (nofun) .none ?_
        refine JLp (T_move rfl) rfl (nofun) .none ?_
        refine JLp (T_move rfl) rfl (nofun) .none ?_
        refine JLp (T_mul rfl rfl) rfl (nofun) .none ?_
        replace hb16 := bnd hb16; obtain ⟨x20, hx20, hb16⟩ := hb16
        refine JLp (T_shr rfl rfl hx20) rfl (nofun) .none ?_
        refine JLp (T_conv rfl Try.underlying73 Try.underlying5) rfl (nofun) .none ?_
        refine JLe0 (T_bslice (ρ := (Rep.int .u8)) sl26 (Lay.int _) (.cons (.mk rfl) .nil) rfl (by decide)) rfl .none ?_
        replace hb16 := bnd hb16; obtain ⟨x21, hx21, hb16⟩ := hb16
        refine JLe1 (T_append sl26 ⟨_, (Lay.int _)⟩ (.mk rfl) (.mk rfl) hx21) rfl .none fun g22 => ?_
        refine JLp (T_assign rfl) rfl (nofun) .none ?_
        refine JL_nil ?_
        refine KJ_nrm_blk ?_
        refine KJ_nrm_then (KJ_J ?_)
        refine J_region ?_
        refine JLp (T_move rfl) rfl (nofun) .none ?_
        refine JLp (T_add rfl rfl) rfl (nofun) .none ?_
        refine JLp (T_assign rfl) rfl (nofun) .none ?_
        refine JL_nil ?_
        refine KJ_nrm_then ?_
        exact KJ_nx (x21, IntKind.i64.wrap (s12.2 + 1)) g22 (inj hb16) (.cons rfl (.cons rfl (.cons rfl (.nil _)))) rfl
      · replace hb16 := iff_ hq19 hb16
        refine J_exit ?_
        refine KJ_exit_then ?_
        refine KJ_exit_then ?_
        refine KJ_exit_here ?_
        refine KJ_nrm_kq ?_
        obtain rfl := inj hb16
        exact KJ_ot (s12.1, s12.2) g13 hf17 (.cons rfl (.nil _)) rfl
    · intro s12 g13 hs
      subst hs
      replace h := thn h
      refine KJ_nrm_then (KJ_J ?_)
      refine J_seq ?_
      refine J_region ?_
      refine JLp (T_move rfl) rfl (nofun) .none ?_
      replace h := bnd h; obtain ⟨x23, hx23, h⟩ := h
      refine JL_freeze2 32 5 rfl rfl ?_
      refine JLe0 (T_call ⟨_, Try.func82, rfl, rfl⟩ (c_ref04_Digest hx23) ⟨(.mk rfl), trivial⟩) rfl .none ?_
      refine JLp (T_assign rfl) rfl (nofun) .none ?_
      refine JL_nil ?_
      refine KJ_nrm_then (KJ_J ?_)
      refine J_ret ?_
      obtain rfl := inj h
      exact KJ_ret1' Try.results93 (.tmp (.mk rfl) Rv.nil) rfl rfl
end Go.Proofs.Ytogflgcngfghpaa
end

/- function 85 -/
section
set_option maxHeartbeats 4000000
set_option linter.unusedVariables false
set_option linter.unusedSimpArgs false
namespace Go.Proofs.Ytogflgcngfghpaa
open Go.J
def f_hashtree_up_uint64 (a0 : List Int) (a1 : Int → Int → Option (Int)) : Option (List Int) :=
  (whileF (σ := List Int × Int) (ρ := List Int) (fun s1 => if (decide (s1.2 < (a0.length : Int))) = true then ((if (decide ((IntKind.i64.wrap (s1.2 + 1)) < (a0.length : Int))) = true then (idx a0 s1.2).bind fun x14 => (idx a0 (IntKind.i64.wrap (s1.2 + 1))).bind fun x15 => (a1 x14 x15).bind fun x16 => (app 8 s1.1 [x16]).bind fun x17 => some (Fl.go x17) else (idx a0 s1.2).bind fun x19 => (app 8 s1.1 [x19]).bind fun x20 => some (Fl.go x20) : Option (Fl (List Int) (Rd (List Int × Int) (List Int))))).bind fun o10 => o10.then fun s12 => some (Rd.next (s12, IntKind.i64.wrap (s1.2 + 2))) else some (Rd.done (s1.1, s1.2))) bigK ([], 0)).bind fun o3 => o3.then fun s1 => some s1.1

theorem c_hashtree_up_uint64 {a0 : List Int} {a1 : Int → Int → Option (Int)} {r : List Int} (h : f_hashtree_up_uint64 a0 a1 = some r) : Ct Try.prog 85 [(Rep.sl (Rep.int .u64) 1).at a0, (Rep.fn2 Try.prog (Rep.int .u64) (Rep.int .u64) (Rep.int .u64)).at a1] [] (fun _ : Unit => (Rep.sl (Rep.int .u64) 1).at r) (fun _ => []) := by
  refine Ct.mk Try.func85 rfl Try.ntmps85 (by simp) fun I R => ?_
  refine J.drop0 ?_
  unfold f_hashtree_up_uint64 at h
  refine J_seq ?_
  refine J_region ?_
  refine JLp (T_assign rfl) rfl (nofun) .none ?_
  refine JL_nil ?_
  refine KJ_nrm_then (KJ_J ?_)
  refine J_seq ?_
  refine J_region ?_
  refine JLp (T_assign rfl) rfl (nofun) .none ?_
  refine JL_nil ?_
  refine KJ_nrm_then (KJ_J ?_)
  refine J_seq ?_
  refine J_seq ?_
  refine J_region ?_
  refine JLp (T_assign rfl) rfl (nofun) .none ?_
  refine JL_nil ?_
  refine KJ_nrm_then (KJ_J ?_)
  refine J_rownil 73 1 (Rep.int .u64) ?_
  replace h := bnd h; obtain ⟨o3, ho4, h⟩ := h
  refine J_cuto o3 (fun (s1 : List Int × Int) (g2 : Value) => [(5, Rep.slv.at g2)]) (fun s1 g2 => Ent.row g2 73 1 (Rep.int .u64) s1.1 :: R) ?_ ?_
  · refine J_block ?_
    refine J_while ho4 (fun (s1 : List Int × Int) (g2 : Value) => [(0, (Rep.sl (Rep.int .u64) 1).at a0), (1, (Rep.fn2 Try.prog (Rep.int .u64) (Rep.int .u64) (Rep.int .u64)).at a1), (5, Rep.slv.at g2), (6, (Rep.int .i64).at s1.2)]) (fun s1 g2 => Ent.row g2 73 1 (Rep.int .u64) s1.1 :: R) (.slice none 0 0) (.cons rfl (.cons rfl (.cons rfl (.cons rfl (.nil _))))) rfl ?_
    intro s1 g2 st7 hb5 hf6
    refine J_seq ?_
    refine J_seq ?_
    refine J_region ?_
    refine JLp (T_move rfl) rfl (nofun) .none ?_
    refine JLp (T_move rfl) rfl (nofun) .none ?_
    refine JLp (T_len (ρ := (Rep.int .u64)) sl67 (.mk rfl)) rfl (nofun) .none ?_
    refine JLp (T_lss rfl rfl) rfl (nofun) .none ?_
    refine JL_nil ?_
    refine KJ_nrm_then (KJ_J ?_)
    refine J_test rfl (fun hq8 => ?_) (fun hq8 => ?_)
    · replace hb5 := ift hq8 hb5
      refine J_skip ?_
      refine KJ_nrm_then (KJ_J ?_)
      refine J_seq ?_
      refine J_block ?_
      refine J_seq ?_
      refine J_region ?_
      refine JLp (T_move rfl) rfl (nofun) .none ?_
      refine JLp (T_add rfl rfl) rfl (nofun) .none ?_
      refine JLp (T_move rfl) rfl (nofun) .none ?_
      refine JLp (T_len (ρ := (Rep.int .u64)) sl67 (.mk rfl)) rfl (nofun) .none ?_
      refine JLp (T_lss rfl rfl) rfl (nofun) .none ?_
      refine JL_nil ?_
      refine KJ_nrm_then (KJ_J ?_)
      replace hb5 := bnd hb5; obtain ⟨o10, ho11, hb5⟩ := hb5
      refine J_cuto o10 (fun (s12 : List Int) (g13 : Value) => [(0, (Rep.sl (Rep.int .u64) 1).at a0), (1, (Rep.fn2 Try.prog (Rep.int .u64) (Rep.int .u64) (Rep.int .u64)).at a1), (6, (Rep.int .i64).at s1.2), (5, Rep.slv.at g13)]) (fun s12 g13 => Ent.row g13 73 1 (Rep.int .u64) s12 :: R) ?_ ?_
      · refine J_test rfl (fun hq9 => ?_) (fun hq9 => ?_)
        · replace ho11 := ift hq9 ho11
          replace ho11 := bnd ho11; obtain ⟨x14, hx14, ho11⟩ := ho11
          replace ho11 := bnd ho11; obtain ⟨x15, hx15, ho11⟩ := ho11
          replace ho11 := bnd ho11; obtain ⟨x16, hx16, ho11⟩ := ho11
          refine J_drawR (Ks := []) rfl (by kernel_rfl) fun K hK => ?_
          refine DR.p (.base (t := 5) rfl .nil) (T_move rfl) .none rfl rfl (nofun) ?_
          refine DR.p (.base (t := 1) rfl .nil) (T_move rfl) .none rfl rfl (nofun) ?_
          refine DR.p (.base (t := 0) rfl .nil) (T_move rfl) .none rfl rfl (nofun) ?_
          refine DR.p (.base (t := 6) rfl .nil) (T_move rfl) .none rfl rfl (nofun) ?_
          refine DR.p (.dep 2 1 rfl rfl rfl (.dep 3 0 rfl rfl rfl .nil)) (T_ix sl67 (.mk rfl) rfl hx14) .none rfl rfl (nofun) ?_
          refine DR.p (.dep 4 0 rfl rfl rfl .nil) (T_load ty73 rfl) .none rfl rfl (nofun) ?_
          refine DR.p (.base (t := 0) rfl .nil) (T_move rfl) .none rfl rfl (nofun) ?_
          refine DR.p (.base (t := 6) rfl .nil) (T_move rfl) .none rfl rfl (nofun) ?_
          refine DR.p (.dep 7 0 rfl rfl rfl .nil) (T_add rfl rfl) .none rfl rfl (nofun) ?_
          refine DR.p (.dep 6 2 rfl rfl rfl (.dep 8 0 rfl rfl rfl .nil)) (T_ix sl67 (.mk rfl) rfl hx15) .none rfl rfl (nofun) ?_
          refine DR.p (.dep 9 0 rfl rfl rfl .nil) (T_load ty73 rfl) .none rfl rfl (nofun) ?_
          refine DR.e (.dep 5 5 rfl rfl rfl (.dep 10 0 rfl rfl rfl (.dep 1 9 rfl rfl rfl .nil))) (T_fn2 rfl hx16 ⟨(.mk rfl), ⟨(.mk rfl), trivial⟩⟩) .none rfl rfl ?_
          refine DR.e (.dep 11 0 rfl rfl rfl .nil) (T_bslice (ρ := (Rep.int .u64)) sl67 (Lay.int _) (.cons (.mk rfl) .nil) rfl (by decide)) .none rfl rfl ?_
          refine DR.tail (by kernel_rfl) (.refl _) rfl ?_
          simp only [List.reverse_cons, List.reverse_nil, List.nil_append, List.cons_append, DT]
          replace ho11 := bnd ho11; obtain ⟨x17, hx17, ho11⟩ := ho11
          refine JLe1 (T_append sl67 ⟨_, (Lay.int _)⟩ (.mk rfl) (.mk rfl) hx17) rfl .none fun g18 => ?_
          refine JLp (T_assign rfl) rfl (nofun) .none ?_
          refine JL_nil (KJ_hid hK ?_)
          refine KJ_nrm_kq ?_
          exact KJ_ot x17 g18 (inj ho11) (.cons rfl (.cons rfl (.cons rfl (.cons rfl (.nil _))))) rfl
        · replace ho11 := iff_ hq9 ho11
          refine J_region ?_
          refine JLp (T_move rfl) rfl (nofun) .none ?_
          refine JLp (T_move rfl) rfl (nofun) .none ?_
          refine JLp (T_move rfl) rfl (nofun) .none ?_
          replace ho11 := bnd ho11; obtain ⟨x19, hx19, ho11⟩ := ho11
          refine JLp (T_ix sl67 (.mk rfl) rfl hx19) rfl (nofun) .none ?_
          refine JLp (T_load ty73 rfl) rfl (nofun) .none ?_
          refine JLe0 (T_bslice (ρ := (Rep.int .u64)) sl67 (Lay.int _) (.cons (.mk rfl) .nil) rfl (by decide)) rfl .none ?_
          replace ho11 := bnd ho11; obtain ⟨x20, hx20, ho11⟩ := ho11
          refine JLe1 (T_append sl67 ⟨_, (Lay.int _)⟩ (.mk rfl) (.mk rfl) hx20) rfl .none fun g21 => ?_
          refine JLp (T_assign rfl) rfl (nofun) .none ?_
          refine JL_nil ?_
          refine KJ_nrm_kq ?_
          exact KJ_ot x20 g21 (inj ho11) (.cons rfl (.cons rfl (.cons rfl (.cons rfl (.nil _))))) rfl
      · intro s12 g13 hs
        subst hs
        replace hb5 := thn hb5
        refine KJ_nrm_blk ?_
        refine KJ_nrm_then (KJ_J ?_)
        refine J_region ?_
        refine JLp (T_move rfl) rfl (nofun) .none ?_
        refine JLp (T_add rfl rfl) rfl (nofun) .none ?_
        refine JLp (T_assign rfl) rfl (nofun) .none ?_
        refine JL_nil ?_
        refine KJ_nrm_then ?_
        exact KJ_nx (s12, IntKind.i64.wrap (s1.2 + 2)) g13 (inj hb5) (.cons rfl (.cons rfl (.cons rfl (.cons rfl (.nil _))))) rfl
    · replace hb5 := iff_ hq8 hb5
      refine J_exit ?_
      refine KJ_exit_then ?_
      refine KJ_exit_then ?_
      refine KJ_exit_here ?_
      refine KJ_nrm_kq ?_
      obtain rfl := inj hb5
      exact KJ_ot (s1.1, s1.2) g2 hf6 (.cons rfl (.nil _)) rfl
  · intro s1 g2 hs
    subst hs
    replace h := thn h
    refine KJ_nrm_then (KJ_J ?_)
    refine J_seq ?_
    refine J_region ?_
    refine JLp (T_move rfl) rfl (nofun) .none ?_
    refine JLp (T_assign rfl) rfl (nofun) .none ?_
    refine JL_nil ?_
    refine KJ_nrm_then (KJ_J ?_)
    refine J_ret ?_
    refine KJ_freeze (t := 4) rfl ?_
    obtain rfl := inj h
    exact KJ_ret1' Try.results85 (.tmp (.mk rfl) Rv.nil) rfl rfl
end Go.Proofs.Ytogflgcngfghpaa
end

/- function 84 -/
section
set_option maxHeartbeats 4000000
set_option linter.unusedVariables false
set_option linter.unusedSimpArgs false
namespace Go.Proofs.Ytogflgcngfghpaa
open Go.J
def f_ref11_above (a0 : List Int) : Option (List Int) :=
  (whileF (σ := List Int × Int) (ρ := List Int) (fun s1 => if (decide (s1.2 < (a0.length : Int))) = true then ((if (decide ((IntKind.i64.wrap (s1.2 + 1)) < (a0.length : Int))) = true then (idx a0 s1.2).bind fun x14 => (idx a0 (IntKind.i64.wrap (s1.2 + 1))).bind fun x15 => (f_ref04_Pair x14 x15).bind fun x16 => (app 8 s1.1 [x16]).bind fun x17 => some (Fl.go x17) else (idx a0 s1.2).bind fun x19 => (app 8 s1.1 [x19]).bind fun x20 => some (Fl.go x20) : Option (Fl (List Int) (Rd (List Int × Int) (List Int))))).bind fun o10 => o10.then fun s12 => some (Rd.next (s12, IntKind.i64.wrap (s1.2 + 2))) else some (Rd.done (s1.1, s1.2))) bigK ([], 0)).bind fun o3 => o3.then fun s1 => some s1.1

theorem c_ref11_above {a0 : List Int} {r : List Int} (h : f_ref11_above a0 = some r) : Ct Try.prog 84 [(Rep.sl (Rep.int .u64) 1).at a0] [] (fun _ : Unit => (Rep.sl (Rep.int .u64) 1).at r) (fun _ => []) := by
  refine Ct.mk Try.func84 rfl Try.ntmps84 (by simp) fun I R => ?_
  refine J.drop0 ?_
  unfold f_ref11_above at h
  refine J_seq ?_
  refine J_region ?_
  refine JLp (T_assign rfl) rfl (nofun) .none ?_
  refine JL_nil ?_
  refine KJ_nrm_then (KJ_J ?_)
  refine J_seq ?_
  refine J_region ?_
  refine JLp (T_assign rfl) rfl (nofun) .none ?_
  refine JL_nil ?_
  refine KJ_nrm_then (KJ_J ?_)
  refine J_seq ?_
  refine J_seq ?_
  refine J_region ?_
  refine JLp (T_assign rfl) rfl (nofun) .none ?_
  refine JL_nil ?_
  refine KJ_nrm_then (KJ_J ?_)
  refine J_rownil 73 1 (Rep.int .u64) ?_
  replace h := bnd h; obtain ⟨o3, ho4, h⟩ := h
  refine J_cuto o3 (fun (s1 : List Int × Int) (g2 : Value) => [(3, Rep.slv.at g2)]) (fun s1 g2 => Ent.row g2 73 1 (Rep.int .u64) s1.1 :: R) ?_ ?_
  · refine J_block ?_
    refine J_while ho4 (fun (s1 : List Int × Int) (g2 : Value) => [(0, (Rep.sl (Rep.int .u64) 1).at a0), (3, Rep.slv.at g2), (4, (Rep.int .i64).at s1.2)]) (fun s1 g2 => Ent.row g2 73 1 (Rep.int .u64) s1.1 :: R) (.slice none 0 0) (.cons rfl (.cons rfl (.cons rfl (.nil _)))) rfl ?_
    intro s1 g2 st7 hb5 hf6
    refine J_seq ?_
    refine J_seq ?_
    refine J_region ?_
    refine JLp (T_move rfl) rfl (nofun) .none ?_
    refine JLp (T_move rfl) rfl (nofun) .none ?_
    refine JLp (T_len (ρ := (Rep.int .u64)) sl67 (.mk rfl)) rfl (nofun) .none ?_
    refine JLp (T_lss rfl rfl) rfl (nofun) .none ?_
    refine JL_nil ?_
    refine KJ_nrm_then (KJ_J ?_)
    refine J_test rfl (fun hq8 => ?_) (fun hq8 => ?_)
    · replace hb5 := ift hq8 hb5
      refine J_skip ?_
      refine KJ_nrm_then (KJ_J ?_)
      refine J_seq ?_
      refine J_block ?_
      refine J_seq ?_
      refine J_region ?_
      refine JLp (T_move rfl) rfl (nofun) .none ?_
      refine JLp (T_add rfl rfl) rfl (nofun) .none ?_
      refine JLp (T_move rfl) rfl (nofun) .none ?_
      refine JLp (T_len (ρ := (Rep.int .u64)) sl67 (.mk rfl)) rfl (nofun) .none ?_
      refine JLp (T_lss rfl rfl) rfl (nofun) .none ?_
      refine JL_nil ?_
      refine KJ_nrm_then (KJ_J ?_)
      replace hb5 := bnd hb5; obtain ⟨o10, ho11, hb5⟩ := hb5
      refine J_cuto o10 (fun (s12 : List Int) (g13 : Value) => [(0, (Rep.sl (Rep.int .u64) 1).at a0), (4, (Rep.int .i64).at s1.2), (3, Rep.slv.at g13)]) (fun s12 g13 => Ent.row g13 73 1 (Rep.int .u64) s12 :: R) ?_ ?_
      · refine J_test rfl (fun hq9 => ?_) (fun hq9 => ?_)
        · replace ho11 := ift hq9 ho11
          replace ho11 := bnd ho11; obtain ⟨x14, hx14, ho11⟩ := ho11
          replace ho11 := bnd ho11; obtain ⟨x15, hx15, ho11⟩ := ho11
          replace ho11 := bnd ho11; obtain ⟨x16, hx16, ho11⟩ := ho11
          refine J_drawR (Ks := []) rfl (by kernel_rfl) fun K hK => ?_
          refine DR.p (.base (t := 3) rfl .nil) (T_move rfl) .none rfl rfl (nofun) ?_
          refine DR.p (.base (t := 0) rfl .nil) (T_move rfl) .none rfl rfl (nofun) ?_
          refine DR.p (.base (t := 4) rfl .nil) (T_move rfl) .none rfl rfl (nofun) ?_
          refine DR.p (.dep 1 1 rfl rfl rfl (.dep 2 0 rfl rfl rfl .nil)) (T_ix sl67 (.mk rfl) rfl hx14) .none rfl rfl (nofun) ?_
          refine DR.p (.dep 3 0 rfl rfl rfl .nil) (T_load ty73 rfl) .none rfl rfl (nofun) ?_
          refine DR.p (.base (t := 0) rfl .nil) (T_move rfl) .none rfl rfl (nofun) ?_
          refine DR.p (.base (t := 4) rfl .nil) (T_move rfl) .none rfl rfl (nofun) ?_
          refine DR.p (.dep 6 0 rfl rfl rfl .nil) (T_add rfl rfl) .none rfl rfl (nofun) ?_
          refine DR.p (.dep 5 2 rfl rfl rfl (.dep 7 0 rfl rfl rfl .nil)) (T_ix sl67 (.mk rfl) rfl hx15) .none rfl rfl (nofun) ?_
          refine DR.p (.dep 8 0 rfl rfl rfl .nil) (T_load ty73 rfl) .none rfl rfl (nofun) ?_
          refine DR.e (.dep 4 5 rfl rfl rfl (.dep 9 0 rfl rfl rfl .nil)) (T_call ⟨_, Try.func93, rfl, rfl⟩ (c_ref04_Pair hx16) ⟨(.mk rfl), ⟨(.mk rfl), trivial⟩⟩) .none rfl rfl ?_
          refine DR.e (.dep 10 0 rfl rfl rfl .nil) (T_bslice (ρ := (Rep.int .u64)) sl67 (Lay.int _) (.cons (.mk rfl) .nil) rfl (by decide)) .none rfl rfl ?_
          refine DR.tail (by kernel_rfl) (.refl _) rfl ?_
          simp only [List.reverse_cons, List.reverse_nil, List.nil_append, List.cons_append, DT]
          replace ho11 := bnd ho11; obtain ⟨x17, hx17, ho11⟩ := ho11
          refine JLe1 (T_append sl67 ⟨_, (Lay.int _)⟩ (.mk rfl) (.mk rfl) hx17) rfl .none fun g18 => ?_
          refine JLp (T_assign rfl) rfl (nofun) .none ?_
          refine JL_nil (KJ_hid hK ?_)
          refine KJ_nrm_kq ?_
          exact KJ_ot x17 g18 (inj ho11) (.cons rfl (.cons rfl (.cons rfl (.nil _)))) rfl
        · replace ho11 := iff_ hq9 ho11
          refine J_region ?_
          refine JLp (T_move rfl) rfl (nofun) .none ?_
          refine JLp (T_move rfl) rfl (nofun) .none ?_
          refine JLp (T_move rfl) rfl (nofun) .none ?_
          replace ho11 := bnd ho11; obtain ⟨x19, hx19, ho11⟩ := ho11
          refine JLp (T_ix sl67 (.mk rfl) rfl hx19) rfl (nofun) .none ?_
          refine JLp (T_load ty73 rfl) rfl (nofun) .none ?_
          refine JLe0 (T_bslice (ρ := (Rep.int .u64)) sl67 (Lay.int _) (.cons (.mk rfl) .nil) rfl (by decide)) rfl .none ?_
          replace ho11 := bnd ho11; obtain ⟨x20, hx20, ho11⟩ := ho11
          refine JLe1 (T_append sl67 ⟨_, (Lay.int _)⟩ (.mk rfl) (.mk rfl) hx20) rfl .none fun g21 => ?_
          refine JLp (T_assign rfl) rfl (nofun) .none ?_
          refine JL_nil ?_
          refine KJ_nrm_kq ?_
          exact KJ_ot x20 g21 (inj ho11) (.cons rfl (.cons rfl (.cons rfl (.nil _)))) rfl
      · intro s12 g13 hs
        subst hs
        replace hb5 := thn hb5
        refine KJ_nrm_blk ?_
        refine KJ_nrm_then (KJ_J ?_)
        refine J_region ?_
        refine JLp (T_move rfl) rfl (nofun) .none ?_
        refine JLp (T_add rfl rfl) rfl (nofun) .none ?_
        refine JLp (T_assign rfl) rfl (nofun) .none ?_
        refine JL_nil ?_
        refine KJ_nrm_then ?_
        exact KJ_nx (s12, IntKind.i64.wrap (s1.2 + 2)) g13 (inj hb5) (.cons rfl (.cons rfl (.cons rfl (.nil _)))) rfl
    · replace hb5 := iff_ hq8 hb5
      refine J_exit ?_
      refine KJ_exit_then ?_
      refine KJ_exit_then ?_
      refine KJ_exit_here ?_
      refine KJ_nrm_kq ?_
      obtain rfl := inj hb5
      exact KJ_ot (s1.1, s1.2) g2 hf6 (.cons rfl (.nil _)) rfl
  · intro s1 g2 hs
    subst hs
    replace h := thn h
    refine KJ_nrm_then (KJ_J ?_)
    refine J_seq ?_
    refine J_region ?_
    refine JLp (T_move rfl) rfl (nofun) .none ?_
    refine JLp (T_assign rfl) rfl (nofun) .none ?_
    refine JL_nil ?_
    refine KJ_nrm_then (KJ_J ?_)
    refine J_ret ?_
    refine KJ_freeze (t := 2) rfl ?_
    obtain rfl := inj h
    exact KJ_ret1' Try.results84 (.tmp (.mk rfl) Rv.nil) rfl rfl
end Go.Proofs.Ytogflgcngfghpaa
end

/- function 63 -/
section
set_option maxHeartbeats 4000000
set_option linter.unusedVariables false
set_option linter.unusedSimpArgs false
namespace Go.Proofs.Ytogflgcngfghpaa
open Go.J
def f_ref11_tree (a0 : Int) (a1 : Int) (a2 : List Int) : Option (api_Tree) :=
  (whileF (σ := List Int × api_Tree × List (List Int)) (ρ := api_Tree) (fun s4 => if (decide (1 < (s4.1.length : Int))) = true then (f_ref11_above s4.1).bind fun x12 => (app 24 s4.2.2 [x12]).bind fun x13 => some (Rd.next (x12, (⟨s4.2.1.Size, s4.2.1.Leaf, []⟩ : api_Tree), x13)) else some (Rd.done (s4.1, (⟨s4.2.1.Size, s4.2.1.Leaf, []⟩ : api_Tree), s4.2.2))) bigK (a2, (⟨a0, a1, []⟩ : api_Tree), ([a2] : List (List Int)))).bind fun o6 => o6.then fun s4 => some (⟨s4.2.1.Size, s4.2.1.Leaf, s4.2.2⟩ : api_Tree)

theorem c_ref11_tree {a0 : Int} {a1 : Int} {a2 : List Int} {r : api_Tree} (h : f_ref11_tree a0 a1 a2 = some r) : Ct Try.prog 63 [(Rep.int .i64).at a0, (Rep.int .i64).at a1, (Rep.sl (Rep.int .u64) 1).at a2] [] (fun _ : Unit => r_api_Tree.at r) (fun _ => []) := by
  refine Ct.mk Try.func63 rfl Try.ntmps63 (by simp) fun I R => ?_
  refine J.drop0 ?_
  unfold f_ref11_tree at h
  refine J_seq ?_
  refine J_region ?_
  refine JLa (T_alloc z24 lay_api_Tree) rfl .none fun b1 => ?_
  refine JL_nil ?_
  refine KJ_nrm_then (KJ_J ?_)
  refine J_seq ?_
  refine J_region ?_
  refine JLp (T_move rfl) rfl (nofun) .none ?_
  refine JLp (T_move rfl) rfl (nofun) .none ?_
  refine JLp (T_move rfl) rfl (nofun) .none ?_
  refine JLv (T_bslr (ρ := (Rep.sl (Rep.int .u64) 1)) sl22 (Lay.sl _ _) (.cons (.mk rfl) .nil) rfl (by decide)) rfl .none fun g2 => ?_
  refine JLp (T_build (ρ := r_api_Tree_h2) (s' := ((⟨a0, a1, []⟩ : api_Tree), g2)) bd24 z_api_Tree_h2 lay_api_Tree_h2 (.cons (π := (Rep.int .i64)) (.mk rfl) rfl (Lay.int _) sg_api_Tree_h2__api_Tree_h2__0 (.cons (π := (Rep.int .i64)) (.mk rfl) rfl (Lay.int _) sg_api_Tree_h2__api_Tree_h2__1 (.cons (π := Rep.slv) (.mk rfl) rfl Lay.slv sg_api_Tree_h2__api_Tree_h2__2 .nil)))) rfl (nofun) .none ?_
  refine JLa (T_alloc z_api_Tree_h2 lay_api_Tree_h2) rfl .none fun b3 => ?_
  refine JLn1 (T_storeG ((⟨a0, a1, []⟩ : api_Tree), g2) ty_api_Tree_h2 rfl (.mk rfl) (SetG.self lay_api_Tree_h2 lay_api_Tree_h2) rfl) .none ?_
  refine JL_nil ?_
  refine KJ_nrm_then (KJ_J ?_)
  refine J_seq ?_
  replace h := bnd h; obtain ⟨o6, ho7, h⟩ := h
  refine J_cuto o6 (fun (s4 : List Int × api_Tree × List (List Int)) (g5 : Value) => [(6, Rep.ptr.at (b1, 0)), (7, Rep.ptr.at (b3, 0))]) (fun s4 g5 => Ent.box b3 r_api_Tree_h2 ((⟨s4.2.1.Size, s4.2.1.Leaf, []⟩ : api_Tree), g5) :: Ent.row g5 67 1 (Rep.sl (Rep.int .u64) 1) s4.2.2 :: Ent.box b1 r_api_Tree (⟨0, 0, []⟩ : api_Tree) :: R) ?_ ?_
  · refine J_block ?_
    refine J_while ho7 (fun (s4 : List Int × api_Tree × List (List Int)) (g5 : Value) => [(6, Rep.ptr.at (b1, 0)), (7, Rep.ptr.at (b3, 0)), (2, (Rep.sl (Rep.int .u64) 1).at s4.1)]) (fun s4 g5 => Ent.box b3 r_api_Tree_h2 ((⟨s4.2.1.Size, s4.2.1.Leaf, []⟩ : api_Tree), g5) :: Ent.row g5 67 1 (Rep.sl (Rep.int .u64) 1) s4.2.2 :: Ent.box b1 r_api_Tree (⟨0, 0, []⟩ : api_Tree) :: R) g2 (.cons rfl (.cons rfl (.cons rfl (.nil _)))) rfl ?_
    intro s4 g5 st10 hb8 hf9
    refine J_seq ?_
    refine J_seq ?_
    refine J_region ?_
    refine JLp (T_move rfl) rfl (nofun) .none ?_
    refine JLp (T_len (ρ := (Rep.int .u64)) sl67 (.mk rfl)) rfl (nofun) .none ?_
    refine JLp (T_gtr rfl rfl) rfl (nofun) .none ?_
    refine JL_nil ?_
    refine KJ_nrm_then (KJ_J ?_)
    refine J_test rfl (fun hq11 => ?_) (fun hq11 => ?_)
    · replace hb8 := ift hq11 hb8
      refine J_skip ?_
      refine KJ_nrm_then (KJ_J ?_)
      refine J_block ?_
      refine J_seq ?_
      refine J_region ?_
      refine JLp (T_move rfl) rfl (nofun) .none ?_
      replace hb8 := bnd hb8; obtain ⟨x12, hx12, hb8⟩ := hb8
      refine JLe0 (T_call ⟨_, Try.func84, rfl, rfl⟩ (c_ref11_above hx12) ⟨(.mk rfl), trivial⟩) rfl .none ?_
      refine JLp (T_assign rfl) rfl (nofun) .none ?_
      refine JL_nil ?_
      refine KJ_nrm_then (KJ_J ?_)
      refine J_region ?_
      refine JLp (T_faddr fo24_2 rfl) rfl (nofun) .none ?_
      refine JLp (T_loadb tv22 rfl hf_api_Tree_h2_Levels) rfl B0 .none ?_
      refine JLp (T_move rfl) rfl (nofun) .none ?_
      refine JLe0 (T_bslice (ρ := (Rep.sl (Rep.int .u64) 1)) sl22 (Lay.sl _ _) (.cons (.mk rfl) .nil) rfl (by decide)) rfl .none ?_
      replace hb8 := bnd hb8; obtain ⟨x13, hx13, hb8⟩ := hb8
      refine JL.perm F1 ?_
      refine JLe1 (T_append sl22 ⟨_, (Lay.sl _ _)⟩ (.mk rfl) (.mk rfl) hx13) rfl .none fun g14 => ?_
      refine JLp (T_faddr fo24_2 rfl) rfl (nofun) .none ?_
      refine JL.perm F1 ?_
      refine JLn1 (T_storeG ((⟨s4.2.1.Size, s4.2.1.Leaf, []⟩ : api_Tree), g14) tv22 rfl (.mk rfl) sg_api_Tree_h2__api_Tree_h2__2 (by rfl)) .none ?_
      refine JL_nil ?_
      refine KJ_nrm_blk ?_
      refine KJ_nrm_then ?_
      exact KJ_nx (x12, (⟨s4.2.1.Size, s4.2.1.Leaf, []⟩ : api_Tree), x13) g14 (inj hb8) (.cons rfl (.cons rfl (.cons rfl (.nil _)))) rfl
    · replace hb8 := iff_ hq11 hb8
      refine J_exit ?_
      refine KJ_exit_then ?_
      refine KJ_exit_then ?_
      refine KJ_exit_here ?_
      refine KJ_nrm_kq ?_
      obtain rfl := inj hb8
      exact KJ_ot (s4.1, (⟨s4.2.1.Size, s4.2.1.Leaf, []⟩ : api_Tree), s4.2.2) g5 hf9 (.cons rfl (.cons rfl (.nil _))) rfl
  · intro s4 g5 hs
    subst hs
    replace h := thn h
    refine KJ_nrm_then (KJ_J ?_)
    refine J_seq ?_
    refine J_region ?_
    refine JL.perm F1 ?_
    refine JL_close (⟨s4.2.1.Size, s4.2.1.Leaf, s4.2.2⟩ : api_Tree) (fun I h => (Clp.iso (f := p_api_Tree_h2) (f' := p_api_Tree) (π := c_api_Tree_h2) (π' := c_api_Tree) (Clp.tail (Clp.tail (Clp.head (Clp.sl h)))))) ?_
    refine JLp (T_loadw ty24 rfl) rfl B0 .none ?_
    refine JL.perm F1 ?_
    refine JLn1 (T_store ty24 rfl (.mk rfl) (SetF.self lay_api_Tree)) .none ?_
    refine JL_nil ?_
    refine KJ_nrm_then (KJ_J ?_)
    refine J_ret ?_
    obtain rfl := inj h
    exact KJ_ret1c () [Ent.box b1 r_api_Tree (⟨s4.2.1.Size, s4.2.1.Leaf, s4.2.2⟩ : api_Tree), Ent.box b3 r_api_Tree (⟨s4.2.1.Size, s4.2.1.Leaf, s4.2.2⟩ : api_Tree)] rfl Try.results63 (.cell ty24 rfl (by simp) Rv.nil) rfl rfl
end Go.Proofs.Ytogflgcngfghpaa
end
