/- The types of the program, plain. Printed by a program. -/
import Derived.Test.YtkalbidbhaalmaaPure
namespace Go.Proofs.Ytkalbidbhaalmaa
structure G.Command where
  kind : Int
  to : Int
  from_ : Int
  len : Int
  data : List UInt8
  deriving DecidableEq, Inhabited
def G.Command.Ok (x : G.Command) : Prop := I64 x.kind ∧ I64 x.to ∧ I64 x.from_ ∧ I64 x.len ∧ Len x.data
structure G.Delta where
  oldLen : Int
  newLen : Int
  oldHash : Nat → UInt8
  newHash : Nat → UInt8
  commands : List G.Command
  deriving Inhabited
def G.Delta.Ok (x : G.Delta) : Prop := I64 x.oldLen ∧ I64 x.newLen ∧ (Len x.commands ∧ ∀ y ∈ x.commands, G.Command.Ok y)
structure G.Fault where
  code : Int
  at_ : Int
  deriving DecidableEq, Inhabited
def G.Fault.Ok (x : G.Fault) : Prop := I64 x.code ∧ I64 x.at_
structure G.Extent where
  off : Int
  len : Int
  deriving DecidableEq, Inhabited
def G.Extent.Ok (x : G.Extent) : Prop := I64 x.off ∧ I64 x.len
structure G.command_target where
  extent : G.Extent
  deriving DecidableEq, Inhabited
def G.command_target.Ok (x : G.command_target) : Prop := G.Extent.Ok x.extent
end Go.Proofs.Ytkalbidbhaalmaa
