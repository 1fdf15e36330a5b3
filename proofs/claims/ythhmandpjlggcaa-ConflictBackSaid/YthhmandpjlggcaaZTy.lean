/- Part of what the laws need: plain words, the walker and its laws, the program's functions. -/
import Derived.Test.YthhmandpjlggcaaZPure
namespace Go.Proofs.Ythhmandpjlggcaa
structure G.struct_x_int64_y_int_signed_bool_code_abi_BoundsErrorCode where
  x : Int
  y : Int
  signed : Bool
  code : UInt8
  deriving DecidableEq, Inhabited
structure G.runtime_boundsError where
  x : Int
  y : Int
  signed : Bool
  code : UInt8
  deriving DecidableEq, Inhabited
structure G.struct_msg_string_addr_uintptr where
  msg : List UInt8
  addr : Int
  deriving DecidableEq, Inhabited
structure G.Command where
  kind : Int
  to : Int
  from_ : Int
  len : Int
  data : List UInt8
  deriving DecidableEq, Inhabited
def G.Command.Ok (x : G.Command) : Prop := I64 x.kind ∧ I64 x.to ∧ I64 x.from_ ∧ I64 x.len ∧ Len x.data
structure G.graftref11_Edge where
  from_ : Int
  to : Int
  deriving DecidableEq, Inhabited
structure G.graftref11_Graph where
  n : Int
  edges : List G.graftref11_Edge
  deriving DecidableEq, Inhabited
structure G.digraph_Edge where
  from_ : Int
  to : Int
  deriving DecidableEq, Inhabited
structure G.Extent where
  off : Int
  len : Int
  deriving DecidableEq, Inhabited
structure G.command_target where
  extent : G.Extent
  deriving DecidableEq, Inhabited
structure G.index_entry where
  extent : G.Extent
  position : Int
  deriving DecidableEq, Inhabited
structure G.index_Index where
  sorted : List G.index_entry
  deriving DecidableEq, Inhabited
structure G.Delta where
  oldLen : Int
  newLen : Int
  oldHash : Nat → UInt8
  newHash : Nat → UInt8
  commands : List G.Command
  deriving Inhabited
structure G.tidy_Origin where
  copied : Bool
  from_ : Int
  value : UInt8
  deriving DecidableEq, Inhabited
end Go.Proofs.Ythhmandpjlggcaa
