/- Part of what the laws need: plain words, the walker and its laws, the program's functions. -/
import Derived.Test.YthnhjibbkleneaaZPure
namespace Go.Proofs.Ythnhjibbkleneaa
structure G.struct_x_int64_y_int_signed_bool_code_abi_BoundsErrorCode where
  x : Int
  y : Int
  signed : Bool
  code : UInt8
  deriving DecidableEq, Inhabited
structure G.runtime_boundsError where
  x : Int
  y : Int
  signed : Bool
  code : UInt8
  deriving DecidableEq, Inhabited
structure G.struct_msg_string_addr_uintptr where
  msg : List UInt8
  addr : Int
  deriving DecidableEq, Inhabited
structure G.runtime_errorAddressString where
  msg : List UInt8
  addr : Int
  deriving DecidableEq, Inhabited
structure G.Command where
  kind : Int
  to : Int
  from_ : Int
  len : Int
  data : List UInt8
  deriving DecidableEq, Inhabited
def G.Command.Ok (x : G.Command) : Prop := I64 x.kind ∧ I64 x.to ∧ I64 x.from_ ∧ I64 x.len ∧ Len x.data
structure G.struct_OldLen_int_NewLen_int_OldHash_32_uint8_NewHash_32_uint8_Commands_api_Command where
  oldLen : Int
  newLen : Int
  oldHash : Nat → UInt8
  newHash : Nat → UInt8
  commands : List G.Command
  deriving Inhabited
structure G.Delta where
  oldLen : Int
  newLen : Int
  oldHash : Nat → UInt8
  newHash : Nat → UInt8
  commands : List G.Command
  deriving Inhabited
def G.Delta.Ok (x : G.Delta) : Prop := I64 x.oldLen ∧ I64 x.newLen ∧ (Len x.commands ∧ ∀ y ∈ x.commands, G.Command.Ok y)
structure G.struct_Kind_int_To_int_From_int_Len_int_Data_uint8 where
  kind : Int
  to : Int
  from_ : Int
  len : Int
  data : List UInt8
  deriving DecidableEq, Inhabited
structure G.struct_Code_api_Errno_At_int where
  code : Int
  at_ : Int
  deriving DecidableEq, Inhabited
structure G.Fault where
  code : Int
  at_ : Int
  deriving DecidableEq, Inhabited
structure G.graftref11_Edge where
  from_ : Int
  to : Int
  deriving DecidableEq, Inhabited
structure G.struct_S_uint32_K_uint32 where
  s : List Int
  k : List Int
  deriving DecidableEq, Inhabited
structure G.graftref02_Keys where
  s : List Int
  k : List Int
  deriving DecidableEq, Inhabited
structure G.struct_Off_int_Len_int where
  off : Int
  len : Int
  deriving DecidableEq, Inhabited
structure G.Extent where
  off : Int
  len : Int
  deriving DecidableEq, Inhabited
structure G.sha_state where
  words : Nat → Int
  rest : List UInt8
  n : Int
  deriving Inhabited
structure G.sha_Hash where
  state : G.sha_state
  deriving Inhabited
structure G.command_target where
  extent : G.Extent
  deriving DecidableEq, Inhabited
end Go.Proofs.Ythnhjibbkleneaa
