/- What an order does to the state of an office. Plain; and the state's box in memory. No conditions. -/
import Derived.Test.YthooacpfmjpdmaaGreatDoorOParse
namespace Go.Proofs.YthooacpfmjpdmaaGreatDoor
open Go.RowKit

/-- Is some claim missed by more than a tenth? -/
def offB (s : St) : Bool := (List.range (clmF s).length).any fun i => decide (gi (clmF s) 0 i < 10 * max (gi s.laid 0 i - gi (clmF s) 0 i) (-(gi s.laid 0 i - gi (clmF s) 0 i)))
/-- The error of an order whose owners there are. -/
def kindE (c : Cal) (s : St) (k : Int) (l : List Int) : Int :=
  if k = 0 then orFrom [whenE (gi l 0 0 == 0) 1, whenE (decide (10000 < s.day + gi l 0 0)) 3] 0
  else if k = 1 then orFrom [whenE (gi l 0 1 == 0) 1, whenE s.fixed 10, whenE (decide (1000 < gi s.strips 0 (gi l 0 0).toNat + gi l 0 1)) 3] 0
  else if k = 2 then orFrom [whenE (decide (100 < gi l 0 0)) 1, whenE s.fixed 6] 0
  else if k = 3 then orFrom [whenE (gi l 0 1 == 0) 1, whenE (!s.fixed || s.heard) 10, whenE (decide (sumI (clmF s) < sumI s.laid + gi l 0 1)) 3] 0
  else if k = 4 then
    (if orFrom [whenE (decide (400 < gi l 0 0)) 1, whenE (!s.fixed) 10, whenE s.heard 6, whenE (sumI s.laid != sumI (clmF s)) 8] 0 = 0 then askedF c [s.day] [gi l 0 0]
    else orFrom [whenE (decide (400 < gi l 0 0)) 1, whenE (!s.fixed) 10, whenE s.heard 6, whenE (sumI s.laid != sumI (clmF s)) 8] 0)
  else if k = 5 then orFrom [whenE (!s.heard) 10, whenE (decide (s.stop < s.day)) 8, whenE (gi s.opn false (gi l 0 0).toNat) 6] 0
  else if k = 6 then orFrom [whenE (gi l 0 2 == 0 || gi l 0 0 == gi l 0 1) 1, whenE (!(gi s.opn false (gi l 0 0).toNat)) 10, whenE (decide (gi s.laid 0 (gi l 0 1).toNat < gi l 0 2)) 8] 0
  else if k = 7 then whenE (!(gi s.opn false (gi l 0 0).toNat)) 10
  else if k = 8 then
    (if orFrom [whenE (!s.heard || decide (s.day ≤ s.stop)) 10, whenE s.ent 6] 0 = 0 then whenE (offB s) 8
    else orFrom [whenE (!s.heard || decide (s.day ≤ s.stop)) 10, whenE s.ent 6] 0)
  else 0
/-- The state behind an order that is not refused. -/
def kindS (c : Cal) (s : St) (k : Int) (l : List Int) : St :=
  if k = 0 then { s with day := s.day + gi l 0 0 }
  else if k = 1 then { s with strips := s.strips.set (gi l 0 0).toNat (gi s.strips 0 (gi l 0 0).toNat + gi l 0 1) }
  else if k = 2 then { s with part := gi l 0 0, fixed := true }
  else if k = 3 then { s with laid := s.laid.set (gi l 0 0).toNat (gi s.laid 0 (gi l 0 0).toNat + gi l 0 1) }
  else if k = 4 then { s with stop := endsR c s.day (gi l 0 0), heard := true }
  else if k = 5 then { s with opn := s.opn.set (gi l 0 0).toNat true }
  else if k = 6 then { s with laid := (s.laid.set (gi l 0 1).toNat (gi s.laid 0 (gi l 0 1).toNat - gi l 0 2)).set (gi l 0 0).toNat (gi (s.laid.set (gi l 0 1).toNat (gi s.laid 0 (gi l 0 1).toNat - gi l 0 2)) 0 (gi l 0 0).toNat + gi l 0 2), opn := s.opn.set (gi l 0 0).toNat false }
  else if k = 7 then { s with opn := s.opn.set (gi l 0 0).toNat false }
  else if k = 8 then { s with ent := true }
  else s
/-- The error of an order. -/
def doE (c : Cal) (s : St) (t : Frm) (l : List Int) : Int :=
  if (l.take t.2.2.toNat).any fun x => decide ((s.strips.length : Int) ≤ x) then 4 else kindE c s t.1 l
def doS (c : Cal) (s : St) (t : Frm) (l : List Int) : St := kindS c s t.1 l
/-- The cells of a state. -/
def stC (n : Nat) (s : St) (g1 c1 g2 c2 g3 c3 : Nat) : Array Value :=
  #[.int .i64 s.day, .slice (some ⟨g1, 0, none⟩) n c1, .slice (some ⟨g2, 0, none⟩) n c2, .int .i64 s.part, .bool s.fixed, .int .i64 s.stop, .bool s.heard, .slice (some ⟨g3, 0, none⟩) n c3, .bool s.ent]
/-- A state in a box of its own. -/
structure StBox (m : Nat) (w : World) (B n : Nat) (s : St) (g1 c1 g2 c2 g3 c3 : Nat) : Prop where
  box : w.heap[B]? = some (.cells (stC n s g1 c1 g2 c2 g3 c3) 90 (0, 0))
  st : StAt m w n s g1 c1 g2 c2 g3 c3
  mB : m ≤ B
  e1 : g1 ≠ B
  e2 : g2 ≠ B
  e3 : g3 ≠ B
end Go.Proofs.YthooacpfmjpdmaaGreatDoor
