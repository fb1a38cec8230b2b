/- The contract of the reader's finish. -/
import Derived.Test.YtglaecalbamnkaaGreatDoorRdH
namespace Go.Proofs.YtglaecalbamnkaaGreatDoor
open Go.RowKit Go.Maps
open PP (Tree)
section
set_option maxHeartbeats 2000000
set_option maxRecDepth 100000
variable {w0 : World} {Z : Nat → Prop} {b : Nat} {Y : RLoc} {E : PP.Env} {σ : PP.St} {bl : List OwnB} {ks : List (Option Addr × List Tree)} {W : World}
/-- The end of a call of the reference that hands back a tree, or an offset and an error. -/
def RFinEnd (w0 : World) (Z : Nat → Prop) (b : Nat) (Y : RLoc) (E : PP.Env) (σ : PP.St) (t : Tree) (bl : List OwnB) (ks : List (Option Addr × List Tree)) (r : Ending) (w' : World) : Prop :=
  ∃ k num nm A c kids, r = .returned (.tuple #[.agg #[.int .u8 ((k : Nat) : Int), .int .i64 num, .string ⟨(nm : List UInt8).toArray⟩, .slice A (kids : List Tree).length c], .int .i64 ((PP.out PP.zeroT (σ, t)).2.1 : Int), .int .i64 ((PP.out PP.zeroT (σ, t)).2.2 : Int)]) ∧
    (PP.out PP.zeroT (σ, t)).1 = .node k num nm kids ∧ RInv w0 Z b Y E σ bl ((A, kids) :: ks) w'
/-- What finish leaves of a state. -/
def endSt (E : PP.Env) (t : Tree) (σ : PP.St) : PP.St := PP.limitP t 0 (if PP.more E σ then PP.reject E σ else σ)
end
end Go.Proofs.YtglaecalbamnkaaGreatDoor
