/- Part of what the laws need: plain words, the walker and its laws, the program's functions. -/
import Derived.Test.YtekpafdhgkocaaaGreatZPure
namespace Go.Proofs.YtekpafdhgkocaaaGreat
structure G.aB where
 x : Int
 y : Int
 signed : Bool
 code : UInt8
 deriving DecidableEq, Inhabited
def G.aB.Ok (x : G.aB) : Prop := ko x.x ∧ ko x.y
structure G.dz where
 x : Int
 y : Int
 signed : Bool
 code : UInt8
 deriving DecidableEq, Inhabited
def G.dz.Ok (x : G.dz) : Prop := ko x.x ∧ ko x.y
structure G.bG where
 msg : List UInt8
 addr : Int
 deriving DecidableEq, Inhabited
def G.bG.Ok (x : G.bG) : Prop := DY x.msg ∧ Qi x.addr
structure G.bX where
 msg : List UInt8
 addr : Int
 deriving DecidableEq, Inhabited
def G.bX.Ok (x : G.bX) : Prop := DY x.msg ∧ Qi x.addr
structure G.Command where
 kind : Int
 to : Int
 from_ : Int
 len : Int
 data : List UInt8
 deriving DecidableEq, Inhabited
def G.Command.Ok (x : G.Command) : Prop := ko x.kind ∧ ko x.to ∧ ko x.from_ ∧ ko x.len ∧ DY x.data
structure G.aj where
 bp : Int
 aP : Int
 cF : Nat → UInt8
 cE : Nat → UInt8
 commands : List G.Command
 deriving Inhabited
def G.aj.Ok (x : G.aj) : Prop := ko x.bp ∧ ko x.aP ∧ (DY x.commands ∧ ∀ y ∈ x.commands, G.Command.Ok y)
structure G.Delta where
 bp : Int
 aP : Int
 cF : Nat → UInt8
 cE : Nat → UInt8
 commands : List G.Command
 deriving Inhabited
def G.Delta.Ok (x : G.Delta) : Prop := ko x.bp ∧ ko x.aP ∧ (DY x.commands ∧ ∀ y ∈ x.commands, G.Command.Ok y)
structure G.bM where
 code : Int
 at_ : Int
 deriving DecidableEq, Inhabited
def G.bM.Ok (x : G.bM) : Prop := ko x.code ∧ ko x.at_
structure G.eR where
 code : Int
 at_ : Int
 deriving DecidableEq, Inhabited
def G.eR.Ok (x : G.eR) : Prop := ko x.code ∧ ko x.at_
structure G.cy where
 s : List Int
 k : List Int
 deriving DecidableEq, Inhabited
def G.cy.Ok (x : G.cy) : Prop := (DY x.s ∧ ∀ y ∈ x.s, Qa y) ∧ (DY x.k ∧ ∀ y ∈ x.k, Qa y)
structure G.cz where
 s : List Int
 k : List Int
 deriving DecidableEq, Inhabited
def G.cz.Ok (x : G.cz) : Prop := (DY x.s ∧ ∀ y ∈ x.s, Qa y) ∧ (DY x.k ∧ ∀ y ∈ x.k, Qa y)
structure G.aH where
 kind : Int
 to : Int
 from_ : Int
 len : Int
 data : List UInt8
 deriving DecidableEq, Inhabited
def G.aH.Ok (x : G.aH) : Prop := ko x.kind ∧ ko x.to ∧ ko x.from_ ∧ ko x.len ∧ DY x.data
structure G.bL where
 off : Int
 len : Int
 deriving DecidableEq, Inhabited
def G.bL.Ok (x : G.bL) : Prop := ko x.off ∧ ko x.len
structure G.ck where
 value : Int
 size : Int
 deriving DecidableEq, Inhabited
def G.ck.Ok (x : G.ck) : Prop := Qi x.value ∧ ko x.size
structure G.ae where
 b : List UInt8
 at_ : Int
 code : Int
 pos : Int
 deriving DecidableEq, Inhabited
def G.ae.Ok (x : G.ae) : Prop := DY x.b ∧ ko x.at_ ∧ ko x.code ∧ ko x.pos
structure G.b6 where
 b : List UInt8
 at_ : Int
 fault : G.eR
 deriving DecidableEq, Inhabited
def G.b6.Ok (x : G.b6) : Prop := DY x.b ∧ ko x.at_ ∧ G.eR.Ok x.fault
structure G.al where
 position : G.b6
 deriving DecidableEq, Inhabited
def G.al.Ok (x : G.al) : Prop := G.b6.Ok x.position
structure G.dM where
 uj : G.bL
 deriving DecidableEq, Inhabited
def G.dM.Ok (x : G.dM) : Prop := G.bL.Ok x.uj
structure G.iy where
 words : Nat → Int
 rest : List UInt8
 n : Int
 deriving Inhabited
def G.iy.Ok (x : G.iy) : Prop := DY x.rest ∧ ko x.n
structure G.oP where
 state : G.iy
 deriving Inhabited
def G.oP.Ok (x : G.oP) : Prop := G.iy.Ok x.state
end Go.Proofs.YtekpafdhgkocaaaGreat
