/- The types of the program, plain. Printed by a program. -/
import Derived.Test.YtkalbidbhaalmaaPure
namespace Go.Proofs.Ytkalbidbhaalmaa
structure G.Command where
  kind : Int
  to : Int
  from_ : Int
  len : Int
  data : List UInt8
  deriving DecidableEq, Inhabited
def G.Command.Ok (x : G.Command) : Prop := I64 x.kind ∧ I64 x.to ∧ I64 x.from_ ∧ I64 x.len ∧ Len x.data
structure G.Delta where
  oldLen : Int
  newLen : Int
  oldHash : Nat → UInt8
  newHash : Nat → UInt8
  commands : List G.Command
  deriving Inhabited
def G.Delta.Ok (x : G.Delta) : Prop := I64 x.oldLen ∧ I64 x.newLen ∧ (Len x.commands ∧ ∀ y ∈ x.commands, G.Command.Ok y)
structure G.Extent where
  off : Int
  len : Int
  deriving DecidableEq, Inhabited
def G.Extent.Ok (x : G.Extent) : Prop := I64 x.off ∧ I64 x.len
structure G.wire_Field where
  value : Int
  size : Int
  deriving DecidableEq, Inhabited
def G.wire_Field.Ok (x : G.wire_Field) : Prop := U64 x.value ∧ I64 x.size
structure G.Fault where
  code : Int
  at_ : Int
  deriving DecidableEq, Inhabited
def G.Fault.Ok (x : G.Fault) : Prop := I64 x.code ∧ I64 x.at_
structure G.wire_position where
  b : List UInt8
  at_ : Int
  fault : G.Fault
  deriving DecidableEq, Inhabited
def G.wire_position.Ok (x : G.wire_position) : Prop := Len x.b ∧ I64 x.at_ ∧ G.Fault.Ok x.fault
structure G.wire_Reader where
  position : G.wire_position
  deriving DecidableEq, Inhabited
def G.wire_Reader.Ok (x : G.wire_Reader) : Prop := G.wire_position.Ok x.position
structure G.format_decoder where
  reader : G.wire_Reader
  deriving DecidableEq, Inhabited
def G.format_decoder.Ok (x : G.format_decoder) : Prop := True
structure G.graftref06_Reader where
  b : List UInt8
  at_ : Int
  code : Int
  pos : Int
  deriving DecidableEq, Inhabited
def G.graftref06_Reader.Ok (x : G.graftref06_Reader) : Prop := Len x.b ∧ I64 x.at_ ∧ I64 x.code ∧ I64 x.pos
end Go.Proofs.Ytkalbidbhaalmaa
