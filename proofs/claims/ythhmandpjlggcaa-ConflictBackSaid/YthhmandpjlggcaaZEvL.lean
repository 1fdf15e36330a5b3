/- Part of what the laws need: plain words, the walker and its laws, the program's functions. -/
import Derived.Test.YthhmandpjlggcaaZEvG
import Derived.Test.YthhmandpjlggcaaZOpen
namespace Go.Proofs.Ythhmandpjlggcaa
open Go.ChangeShapes Go.WideShapes Go.ChangeAt Go.RowKit G
namespace E
section
variable {S : Nat → Type} {tb : Tb S} {K : TbOK tb} {H : Type} {enc : TypeId × Value → H} {P : Program} {W : World} {base : Nat} {spare : Nat → Bool} {held : Bool} {t e : TypeId}
theorem ai_opensE {n : Nat} {k : IntKind} (ht : P.underlying t = some (.array n e)) (he : P.underlying e = some (.int k)) (hce : P.cellsOf e = 1) (hc : P.cellsOf t = n) (hn : 0 < n) : Opens enc P W base spare held (RK K (.ai n k)) (fun _ => True) t := by
  intro fuel cs x h
  obtain ⟨xs, m, _, _, hl, hxl, hf⟩ := DataW.trod_array ht h
  rw [hc] at hl
  have each : ∀ i, i < n → ∃ c : Int, cs[i]? = some (.int k c) := by
    intro i hi
    have h1 := hf i hi
    rw [hce, Nat.mul_one] at h1
    obtain ⟨_, c, hc', _⟩ := num_opens (enc := enc) (W := W) (base := base) (spare := spare) (held := held) he hce m _ (xs[i]'(by omega)) (by rw [h1]; simp)
    unfold isNum at hc'
    have : ((cs.drop i).take 1)[0]? = some (.int k c) := by rw [hc']; rfl
    rw [List.getElem?_take, if_pos (by omega), List.getElem?_drop, Nat.add_zero] at this
    exact ⟨c, this⟩
  refine ⟨by rw [hc]; exact hl, fun i => if h : i < n then Classical.choose (each i h) else 0, ⟨?_, hn⟩, trivial⟩
  apply List.ext_getElem?
  intro i
  by_cases hi : i < n
  · rw [Classical.choose_spec (each i hi)]
    simp [hi]
  · rw [List.getElem?_eq_none (by omega), List.getElem?_eq_none (by simp; omega)]
theorem okWide_arr {r : Reach} {n : Nat} {v : Value} (ht : P.underlying t = some (.array n e)) (h : Value.okWide P W r base t v) : ∃ cs, v = .agg cs ∧ cs.size = P.cellsOf t := by
  simp only [Value.okWide, ht] at h
  obtain ⟨cs, h1, h2, _⟩ := h
  exact ⟨cs, h1, h2⟩
theorem arg_one {c : Co} {x : T S c} {v : Value} {m : Mem} {g : GG S} (hn : noSt c = true) (h : RK K c m x [v]) : avR K g m (.one (toCV c x)) v := by
  simp only [avR]; exact toCV_ok hn h
theorem arg_agg {c : Co} {x : T S c} {cs : Array Value} {m : Mem} {g : GG S} (h : RK K c m x cs.toList) : avR K g m (.agg (upk tb c x)) (.agg cs) := by
  simp only [avR]; exact ⟨cs.toList, by simp, upk_ok h⟩
theorem law_link {f : FuncId} {ins : List PS} {ls : List Co} {pok few} {sem : HT S ls → Option (AltT S [({ out := .one (.dat .bo), ls' := [.bo] } : Out)])} {vals : List Value}
    (hB : K.B (Mem.all W)) (hs : Sound P K ({ f := f, ins := ins, ls := ls, outs := [{ out := .one (.dat .bo), ls' := [.bo] }], pok := pok, few := few, sem := sem } : Ctr S)) (hf : Nat.ble f 999999 = true) (x : HT S ls) (hx : sem x = (some true : Option Bool))
    (A : List (AV S)) (hA : PS.fills tb id ins (dynOf ls x) = some (A, [])) (hv : avsR K (gOf fun _ => none) (Mem.all W) A vals) :
    Spec P f vals.toArray (Mem.all W) [] fun v _ L => L = [] ∧ v = .bool true := by
  have h := hs.go x (true : Bool) (fun _ => none) (Mem.all W) vals [] hx (fun _ _ => rfl) (fun ds args ds1 obs ds2 h1 h2 h3 => by
    have e1 : some (dynOf ls x) = some ds := h1
    cases e1
    have e2 : some (A, ([] : List (Dyn S))) = some (args, ds1) := hA.symm.trans h2
    cases e2
    have e3 : some (([] : List (AO S)), ([] : List (Dyn S))) = some (obs, ds2) := h3
    cases e3
    exact ⟨hv, rfl⟩) rfl (Ow.nil _) hB
  unfold Does at h
  rw [if_pos (Nat.le_of_ble_eq_true hf)] at h
  refine Calls.mono h.2 fun e w' ⟨v, m', L', h1, h2, h3, h4⟩ => ⟨v, m', L', h1, h2, h3, ?_⟩
  obtain ⟨bk', Ln, k1, _, _, k2⟩ := h4
  obtain ⟨k3, k4⟩ := k2 (gOf bk') id [⟨.bo, (true : Bool)⟩] (.one (boB true)) [] [] (fun i h hh => hh) rfl rfl rfl
  have k5 : Ln = [] := k4
  subst k5
  simp only [avR, boB, cvR, List.cons.injEq, and_true] at k3
  exact ⟨k1, k3⟩
end
end E
end Go.Proofs.Ythhmandpjlggcaa
