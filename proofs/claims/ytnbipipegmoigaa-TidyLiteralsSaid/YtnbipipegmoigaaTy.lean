/- The types of the program, plain. Printed by a program. -/
import Derived.Test.YtnbipipegmoigaaPure
namespace Go.Proofs.Ytnbipipegmoigaa
structure G.struct_x_int64_y_int_signed_bool_code_abi_BoundsErrorCode where
  x : Int
  y : Int
  signed : Bool
  code : UInt8
  deriving DecidableEq, Inhabited
def G.struct_x_int64_y_int_signed_bool_code_abi_BoundsErrorCode.Ok (x : G.struct_x_int64_y_int_signed_bool_code_abi_BoundsErrorCode) : Prop := I64 x.x ∧ I64 x.y
structure G.runtime_boundsError where
  x : Int
  y : Int
  signed : Bool
  code : UInt8
  deriving DecidableEq, Inhabited
def G.runtime_boundsError.Ok (x : G.runtime_boundsError) : Prop := I64 x.x ∧ I64 x.y
structure G.struct_msg_string_addr_uintptr where
  msg : List UInt8
  addr : Int
  deriving DecidableEq, Inhabited
def G.struct_msg_string_addr_uintptr.Ok (x : G.struct_msg_string_addr_uintptr) : Prop := Len x.msg ∧ U64 x.addr
structure G.runtime_errorAddressString where
  msg : List UInt8
  addr : Int
  deriving DecidableEq, Inhabited
def G.runtime_errorAddressString.Ok (x : G.runtime_errorAddressString) : Prop := Len x.msg ∧ U64 x.addr
structure G.Command where
  kind : Int
  to : Int
  from_ : Int
  len : Int
  data : List UInt8
  deriving DecidableEq, Inhabited
def G.Command.Ok (x : G.Command) : Prop := I64 x.kind ∧ I64 x.to ∧ I64 x.from_ ∧ I64 x.len ∧ Len x.data
structure G.struct_Kind_int_To_int_From_int_Len_int_Data_uint8 where
  kind : Int
  to : Int
  from_ : Int
  len : Int
  data : List UInt8
  deriving DecidableEq, Inhabited
def G.struct_Kind_int_To_int_From_int_Len_int_Data_uint8.Ok (x : G.struct_Kind_int_To_int_From_int_Len_int_Data_uint8) : Prop := I64 x.kind ∧ I64 x.to ∧ I64 x.from_ ∧ I64 x.len ∧ Len x.data
structure G.struct_OldLen_int_NewLen_int_OldHash_32_uint8_NewHash_32_uint8_Commands_api_Command where
  oldLen : Int
  newLen : Int
  oldHash : Nat → UInt8
  newHash : Nat → UInt8
  commands : List G.Command
  deriving Inhabited
def G.struct_OldLen_int_NewLen_int_OldHash_32_uint8_NewHash_32_uint8_Commands_api_Command.Ok (x : G.struct_OldLen_int_NewLen_int_OldHash_32_uint8_NewHash_32_uint8_Commands_api_Command) : Prop := I64 x.oldLen ∧ I64 x.newLen ∧ (Len x.commands ∧ ∀ y ∈ x.commands, G.Command.Ok y)
structure G.Delta where
  oldLen : Int
  newLen : Int
  oldHash : Nat → UInt8
  newHash : Nat → UInt8
  commands : List G.Command
  deriving Inhabited
def G.Delta.Ok (x : G.Delta) : Prop := I64 x.oldLen ∧ I64 x.newLen ∧ (Len x.commands ∧ ∀ y ∈ x.commands, G.Command.Ok y)
structure G.graftref11_Edge where
  from_ : Int
  to : Int
  deriving DecidableEq, Inhabited
def G.graftref11_Edge.Ok (x : G.graftref11_Edge) : Prop := I64 x.from_ ∧ I64 x.to
structure G.struct_N_int_Edges_graftref11_Edge where
  n : Int
  edges : List G.graftref11_Edge
  deriving DecidableEq, Inhabited
def G.struct_N_int_Edges_graftref11_Edge.Ok (x : G.struct_N_int_Edges_graftref11_Edge) : Prop := I64 x.n ∧ (Len x.edges ∧ ∀ y ∈ x.edges, G.graftref11_Edge.Ok y)
structure G.graftref11_Graph where
  n : Int
  edges : List G.graftref11_Edge
  deriving DecidableEq, Inhabited
def G.graftref11_Graph.Ok (x : G.graftref11_Graph) : Prop := I64 x.n ∧ (Len x.edges ∧ ∀ y ∈ x.edges, G.graftref11_Edge.Ok y)
structure G.struct_From_int_To_int where
  from_ : Int
  to : Int
  deriving DecidableEq, Inhabited
def G.struct_From_int_To_int.Ok (x : G.struct_From_int_To_int) : Prop := I64 x.from_ ∧ I64 x.to
structure G.digraph_Edge where
  from_ : Int
  to : Int
  deriving DecidableEq, Inhabited
def G.digraph_Edge.Ok (x : G.digraph_Edge) : Prop := I64 x.from_ ∧ I64 x.to
structure G.Extent where
  off : Int
  len : Int
  deriving DecidableEq, Inhabited
def G.Extent.Ok (x : G.Extent) : Prop := I64 x.off ∧ I64 x.len
structure G.struct_Off_int_Len_int where
  off : Int
  len : Int
  deriving DecidableEq, Inhabited
def G.struct_Off_int_Len_int.Ok (x : G.struct_Off_int_Len_int) : Prop := I64 x.off ∧ I64 x.len
structure G.struct_Code_api_Errno_At_int where
  code : Int
  at_ : Int
  deriving DecidableEq, Inhabited
def G.struct_Code_api_Errno_At_int.Ok (x : G.struct_Code_api_Errno_At_int) : Prop := I64 x.code ∧ I64 x.at_
structure G.Fault where
  code : Int
  at_ : Int
  deriving DecidableEq, Inhabited
def G.Fault.Ok (x : G.Fault) : Prop := I64 x.code ∧ I64 x.at_
structure G.struct_Copied_bool_From_int_Value_uint8 where
  copied : Bool
  from_ : Int
  value : UInt8
  deriving DecidableEq, Inhabited
def G.struct_Copied_bool_From_int_Value_uint8.Ok (x : G.struct_Copied_bool_From_int_Value_uint8) : Prop := I64 x.from_
structure G.tidy_Origin where
  copied : Bool
  from_ : Int
  value : UInt8
  deriving DecidableEq, Inhabited
def G.tidy_Origin.Ok (x : G.tidy_Origin) : Prop := I64 x.from_
structure G.graftref09_Origin where
  copied : Bool
  from_ : Int
  value : UInt8
  deriving DecidableEq, Inhabited
def G.graftref09_Origin.Ok (x : G.graftref09_Origin) : Prop := I64 x.from_
structure G.struct_api_Extent where
  extent : G.Extent
  deriving DecidableEq, Inhabited
def G.struct_api_Extent.Ok (x : G.struct_api_Extent) : Prop := G.Extent.Ok x.extent
structure G.command_target where
  extent : G.Extent
  deriving DecidableEq, Inhabited
def G.command_target.Ok (x : G.command_target) : Prop := G.Extent.Ok x.extent
structure G.index_entry where
  extent : G.Extent
  position : Int
  deriving DecidableEq, Inhabited
def G.index_entry.Ok (x : G.index_entry) : Prop := G.Extent.Ok x.extent ∧ I64 x.position
structure G.struct_sorted_index_entry where
  sorted : List G.index_entry
  deriving DecidableEq, Inhabited
def G.struct_sorted_index_entry.Ok (x : G.struct_sorted_index_entry) : Prop := (Len x.sorted ∧ ∀ y ∈ x.sorted, G.index_entry.Ok y)
structure G.index_Index where
  sorted : List G.index_entry
  deriving DecidableEq, Inhabited
def G.index_Index.Ok (x : G.index_Index) : Prop := (Len x.sorted ∧ ∀ y ∈ x.sorted, G.index_entry.Ok y)
structure G.struct_api_Extent_position_int where
  extent : G.Extent
  position : Int
  deriving DecidableEq, Inhabited
def G.struct_api_Extent_position_int.Ok (x : G.struct_api_Extent_position_int) : Prop := G.Extent.Ok x.extent ∧ I64 x.position
structure G.struct_command_target_api_Command where
  target : G.command_target
  command : G.Command
  deriving DecidableEq, Inhabited
def G.struct_command_target_api_Command.Ok (x : G.struct_command_target_api_Command) : Prop := G.command_target.Ok x.target ∧ G.Command.Ok x.command
structure G.command_known where
  target : G.command_target
  command : G.Command
  deriving DecidableEq, Inhabited
def G.command_known.Ok (x : G.command_known) : Prop := G.command_target.Ok x.target ∧ G.Command.Ok x.command
end Go.Proofs.Ytnbipipegmoigaa
