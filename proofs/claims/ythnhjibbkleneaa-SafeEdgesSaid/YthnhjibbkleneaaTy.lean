/- The types of the program, plain. Printed by a program. -/
import Derived.Test.YthnhjibbkleneaaPure
namespace Go.Proofs.Ythnhjibbkleneaa
structure G.struct_x_int64_y_int_signed_bool_code_abi_BoundsErrorCode where
  x : Int
  y : Int
  signed : Bool
  code : UInt8
  deriving DecidableEq, Inhabited
def G.struct_x_int64_y_int_signed_bool_code_abi_BoundsErrorCode.Ok (x : G.struct_x_int64_y_int_signed_bool_code_abi_BoundsErrorCode) : Prop := I64 x.x ∧ I64 x.y
structure G.runtime_boundsError where
  x : Int
  y : Int
  signed : Bool
  code : UInt8
  deriving DecidableEq, Inhabited
def G.runtime_boundsError.Ok (x : G.runtime_boundsError) : Prop := I64 x.x ∧ I64 x.y
structure G.struct_msg_string_addr_uintptr where
  msg : List UInt8
  addr : Int
  deriving DecidableEq, Inhabited
def G.struct_msg_string_addr_uintptr.Ok (x : G.struct_msg_string_addr_uintptr) : Prop := Len x.msg ∧ U64 x.addr
structure G.Command where
  kind : Int
  to : Int
  from_ : Int
  len : Int
  data : List UInt8
  deriving DecidableEq, Inhabited
def G.Command.Ok (x : G.Command) : Prop := I64 x.kind ∧ I64 x.to ∧ I64 x.from_ ∧ I64 x.len ∧ Len x.data
structure G.Fault where
  code : Int
  at_ : Int
  deriving DecidableEq, Inhabited
def G.Fault.Ok (x : G.Fault) : Prop := I64 x.code ∧ I64 x.at_
structure G.graftref11_Edge where
  from_ : Int
  to : Int
  deriving DecidableEq, Inhabited
def G.graftref11_Edge.Ok (x : G.graftref11_Edge) : Prop := I64 x.from_ ∧ I64 x.to
structure G.Extent where
  off : Int
  len : Int
  deriving DecidableEq, Inhabited
def G.Extent.Ok (x : G.Extent) : Prop := I64 x.off ∧ I64 x.len
structure G.graftref11_Graph where
  n : Int
  edges : List G.graftref11_Edge
  deriving DecidableEq, Inhabited
def G.graftref11_Graph.Ok (x : G.graftref11_Graph) : Prop := I64 x.n ∧ (Len x.edges ∧ ∀ y ∈ x.edges, G.graftref11_Edge.Ok y)
structure G.sha_state where
  words : Nat → Int
  rest : List UInt8
  n : Int
  deriving Inhabited
def G.sha_state.Ok (x : G.sha_state) : Prop := Len x.rest ∧ I64 x.n
structure G.command_target where
  extent : G.Extent
  deriving DecidableEq, Inhabited
def G.command_target.Ok (x : G.command_target) : Prop := G.Extent.Ok x.extent
structure G.index_entry where
  extent : G.Extent
  position : Int
  deriving DecidableEq, Inhabited
def G.index_entry.Ok (x : G.index_entry) : Prop := G.Extent.Ok x.extent ∧ I64 x.position
structure G.index_Index where
  sorted : List G.index_entry
  deriving DecidableEq, Inhabited
def G.index_Index.Ok (x : G.index_Index) : Prop := (Len x.sorted ∧ ∀ y ∈ x.sorted, G.index_entry.Ok y)
structure G.Delta where
  oldLen : Int
  newLen : Int
  oldHash : Nat → UInt8
  newHash : Nat → UInt8
  commands : List G.Command
  deriving Inhabited
def G.Delta.Ok (x : G.Delta) : Prop := I64 x.oldLen ∧ I64 x.newLen ∧ (Len x.commands ∧ ∀ y ∈ x.commands, G.Command.Ok y)
end Go.Proofs.Ythnhjibbkleneaa
