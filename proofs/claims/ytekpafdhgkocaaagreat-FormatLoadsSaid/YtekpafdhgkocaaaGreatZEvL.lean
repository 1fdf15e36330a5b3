/- Part of what the laws need: plain words, the walker and its laws, the program's functions. -/
import Derived.Test.YtekpafdhgkocaaaGreatZEvG
import Derived.Test.YtekpafdhgkocaaaGreatZOpen
namespace Go.Proofs.YtekpafdhgkocaaaGreat
open Go.ChangeShapes Go.WideShapes Go.ChangeAt Go.RowKit G
namespace E
section
variable {S : Nat → Type} {tb : Tb S} {K : cV tb} {H : Type} {enc : TypeId × Value → H} {P : Program} {W : World} {base : Nat} {spare : Nat → Bool} {held : Bool} {t e : TypeId}
theorem Jq {c : Co} {x : T S c} {v : Value} {m : Mem} {g : GG S} (hn : Aq c = true) (h : RK K c m x [v]) : aA K g m (.one (toCV c x)) v := by
 simp only [aA]; exact toCV_ok hn h
theorem Hx {f : FuncId} {ins : List PS} {ls : List Co} {LC A1} {cx : HT S ls → Option (gH S [({ out := .one (.af .bo), b9 := [.bo] } : Out)])} {vals : List Value}
 (hB : K.B (Mem.all W)) (hs : Sound P K ({ f := f, ins := ins, ls := ls, outs := [{ out := .one (.af .bo), b9 := [.bo] }], LC := LC, A1 := A1, cx := cx } : bO S)) (hf : Nat.ble f 999999 = true) (x : HT S ls) (hx : cx x = (some true : Option Bool))
 (A : List (AV S)) (hA : PS.da tb id ins (mM ls x) = some (A, [])) (hv : bU K (Hk fun _ => none) (Mem.all W) A vals) :
 Spec P f vals.toArray (Mem.all W) [] fun v _ L => L = [] ∧ v = .bool true := by
 have h := hs.go x (true : Bool) (fun _ => none) (Mem.all W) vals [] hx (fun _ _ => rfl) (fun ds args ds1 br ds2 h1 h2 h3 => by
  have e1 : some (mM ls x) = some ds := h1
  cases e1
  have e2 : some (A, ([] : List (fL S))) = some (args, ds1) := hA.symm.trans h2
  cases e2
  have e3 : some (([] : List (AO S)), ([] : List (fL S))) = some (br, ds2) := h3
  cases e3
  exact ⟨hv, rfl⟩) rfl (Ow.nil _) hB
 unfold qM at h
 rw [if_pos (Nat.le_of_ble_eq_true hf)] at h
 refine Calls.mono h.2 fun e w' ⟨v, m', L', h1, h2, h3, h4⟩ => ⟨v, m', L', h1, h2, h3, ?_⟩
 obtain ⟨CB, Ln, k1, _, _, k2⟩ := h4
 obtain ⟨k3, k4⟩ := k2 (Hk CB) id [⟨.bo, (true : Bool)⟩] (.one (Mc true)) [] [] (fun i h hh => hh) rfl rfl rfl
 have k5 : Ln = [] := k4
 subst k5
 simp only [aA, Mc, au, List.cons.injEq, and_true] at k3
 exact ⟨k1, k3⟩
end
end E
end Go.Proofs.YtekpafdhgkocaaaGreat
