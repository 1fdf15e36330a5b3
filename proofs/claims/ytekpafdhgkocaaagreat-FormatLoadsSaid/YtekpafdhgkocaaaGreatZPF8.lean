/- Part of what the laws need: plain words, the walker and its laws, the program's functions. -/
import Derived.Test.YtekpafdhgkocaaaGreatZPF7
import Derived.Test.YtekpafdhgkocaaaGreatZPLF
import Derived.Test.YtekpafdhgkocaaaGreatZPH4
namespace Go.Proofs.YtekpafdhgkocaaaGreat
open G
open RS
theorem Fy (v k : Nat) (h1 : 1 ≤ k) (hk : k ≤ 8) (hv : v < 256 ^ k) : G.hU ⟨(v : Int), (k : Int)⟩ = some true := by
 unfold G.hU
 dsimp only
 rw [if_pos (by omega), if_pos (by omega), eK (x := 8 * (k : Int)) (by omega) (by omega), eK (by omega) (by omega), bg (by omega)]
 simp only [Option.bind_some]
 have e : bN .u64 (bN .u64 (v : Int) (8 * (k : Int) - 1)) 1 = 0 := by
  unfold bN
  have e1 : min (8 * (k : Int) - 1).toNat IntKind.u64.bits = 8 * k - 1 := by show min _ 64 = _; omega
  rw [e1, show min (1 : Int).toNat IntKind.u64.bits = 1 from rfl]
  have e2 : ((2 : Int) ^ (8 * k - 1)) = ((2 ^ (8 * k - 1) : Nat) : Int) := by rw [Int.natCast_pow]; rfl
  have e0 : ∀ m : Nat, 0 ≤ (2 : Int) ^ m := fun m => by rw [show (2 : Int) = ((2 : Nat) : Int) from rfl, ← Int.natCast_pow]; exact Int.natCast_nonneg _
  rw [Int.fdiv_eq_ediv_of_nonneg _ (e0 _), Int.fdiv_eq_ediv_of_nonneg _ (e0 _), e2, ← Int.natCast_ediv]
  have e3 : (2 : Nat) ^ (8 * k - 1) * 2 = 256 ^ k := by
   rw [← Nat.pow_succ, show (8 * k - 1).succ = 8 * k by omega, Nat.pow_mul]
  have e4 : v / 2 ^ (8 * k - 1) < 2 := by
   rw [Nat.div_lt_iff_lt_mul (Nat.pow_pos (by decide)), Nat.mul_comm, e3]; exact hv
  generalize v / 2 ^ (8 * k - 1) = y at *
  show (y : Int) / 2 = 0
  omega
 rw [e]; rfl
theorem EY (v : Nat) (s1 : (List UInt8) × Int) (sz : Int) : ∀ (k : Nat) (b : List UInt8), k ≤ 8 → b.length + k ≤ 140737488355328 → Iter (G.jc s1 ⟨(v : Int), sz⟩) (b, (k : Int) - 1) = some (.inl (b ++ be k v, IntKind.i64.wrap (s1.2 + 1)))
 | 0, b, _, _ => by
   apply cH; unfold G.jc; simp [be]
 | k + 1, b, hk, hb => by
   have e : ((k + 1 : Nat) : Int) - 1 = (k : Int) := by omega
   rw [e]
   have ih := EY v s1 sz k (b ++ [UInt8.ofNat (v / 256 ^ k)]) (by omega) (by simp; omega)
   rw [be, List.append_cons, ← ih]
   apply dK
   unfold G.jc
   dsimp only
   rw [if_pos (by omega), eK (by omega) (by omega), bg (by omega), eK (by omega) (by omega)]
   simp only [Option.bind_some]
   rw [byteOf v k (by omega), eF (by simp; omega)]
   rfl
def BF (l : List (Nat × Nat)) : List G.ck := l.map fun x => ⟨(x.1 : Int), (x.2 : Int)⟩
def ia (l : List (Nat × Nat)) : List UInt8 := l.flatMap fun x => be x.2 x.1
theorem LI (l : List (Nat × Nat)) (b : List UInt8) (hl : ∀ x ∈ l, 1 ≤ x.2 ∧ x.2 ≤ 8 ∧ x.1 < 256 ^ x.2) (hb : b.length + (ia l).length ≤ 140737488355328) (hn : l.length ≤ 1000) : G.gu b (BF l) = some (b ++ ia l, true) := by
 unfold G.gu
 have hx : ∀ k, (ia (l.take k)).length ≤ (ia l).length := fun k => by
  have : ia l = ia (l.take k) ++ ia (l.drop k) := by unfold ia; rw [← List.flatMap_append, List.take_append_drop]
  rw [this]; simp
 rw [tG _ (by omega)]
 simp only [Option.bind_some]
 refine bA l.length (fun k => (b ++ ia (l.take k), (k : Int))) _ (fun k hk => ?_) ?_ (by simp [ia])
 · unfold G.lA
   have hk' : k < (BF l).length := by simpa [BF] using hk
   dsimp only
   rw [if_pos (by omega), dh hk']
   simp only [Option.bind_some]
   have e : (BF l)[k] = ⟨(l[k].1 : Int), (l[k].2 : Int)⟩ := by simp [BF]
   obtain ⟨h1, h8, hv⟩ := hl _ (List.getElem_mem hk)
   have hs : ia (l.take (k + 1)) = ia (l.take k) ++ be l[k].2 l[k].1 := by
    unfold ia; rw [List.take_succ_eq_append_getElem hk, List.flatMap_append]; simp
   have hlen := hx (k + 1)
   rw [hs, List.length_append, GY] at hlen
   rw [e, Fy _ _ h1 h8 hv]
   simp only [Option.bind_some, Bool.true_eq_false, if_false]
   rw [eK (by omega) (by omega), EY _ _ _ _ _ h8 (by simp; omega), ea hk (by omega), hs, List.append_assoc]
 · unfold G.lA
   rw [if_neg (by simp [BF])]
   simp
def yA : List UInt8 := (Ev ++ ia [(1, 1), (0, 8), (0, 8)]) ++ ((gb 32 (fun _ => 0)).drop (0 : Int).toNat).take ((32 : Int) - (0 : Int)).toNat ++ ((gb 32 (fun _ => 0)).drop (0 : Int).toNat).take ((32 : Int) - (0 : Int)).toNat ++ ia [(0, 4)]
theorem G4 : G.iJ jY = some 0 := by
 unfold G.iJ
 have e : G.fH [jY.bp, jY.aP] = some true := by unfold G.fH; exact rT 3 (by kernel_rfl)
 rw [e]
 simp only [Option.bind_some]
 have e2 : Iter (G.nF jY) (true, (0 : Int)) = some (.inl true) := rT 1 (by kernel_rfl)
 rw [e2]; rfl
theorem Ji : G.jD jY = some (yA, 0) := by
 unfold G.jD
 rw [G4]
 simp only [Option.bind_some]
 rw [if_neg (by simp)]
 have e1 : G.c8 jY.bp = some ⟨0, 8⟩ := rfl
 have e2 : G.c8 jY.aP = some ⟨0, 8⟩ := rfl
 rw [e1, e2, BT]
 simp only [Option.bind_some]
 have e3 := LI [(1, 1), (0, 8), (0, 8)] Ev (by decide) (by decide) (by decide)
 have e3' : BF [(1, 1), (0, 8), (0, 8)] = [⟨1, 1⟩, ⟨0, 8⟩, ⟨0, 8⟩] := rfl
 rw [e3'] at e3
 rw [e3]
 simp only [Option.bind_some]
 rw [bg (by omega)]
 simp only [Option.bind_some]
 rw [eF (by decide)]
 simp only [Option.bind_some]
 rw [eF (by decide)]
 simp only [Option.bind_some]
 have e4 := fun b h => LI [(0, 4)] b (by decide) h (by decide)
 have e4' : BF [(0, 4)] = [⟨IntKind.u64.wrap (jY.commands.length : Int), 4⟩] := rfl
 rw [e4'] at e4
 rw [e4 _ (by decide)]
 simp only [Option.bind_some]
 rw [show ∀ b, Iter (G.jl jY) (b, (0 : Int)) = some b from fun b => cH (by unfold G.jl; rfl)]
 rfl
theorem N2 : G.lO jY = some 89 := by
 unfold G.lO
 rw [G4]
 simp only [Option.bind_some]
 rw [if_neg (by simp)]
 exact rT 1 (by kernel_rfl)
theorem BB : yA.length = 89 := by kernel_rfl
theorem Qm : (dec yA).2 = (0, 0) := by kernel_rfl
theorem JF : sm (dec yA).1 jY = true := by kernel_rfl
theorem Mf : (dec yA).1.commands.length = 0 := by kernel_rfl
theorem Qn : (dec [u8 71, u8 82, u8 70]).2 = (8, 3) := by kernel_rfl
theorem GR : G.eZ = some true := by
 unfold G.eZ
 rw [show (⟨0, 0, fun _ => (0 : UInt8), fun _ => (0 : UInt8), ([] : List G.Command)⟩ : G.Delta) = jY from rfl, Ji]
 simp only [Option.bind_some]
 rw [wx (by rw [BB]; omega), wx (by decide), Qm, Qn]
 simp only [Option.bind_some]
 rw [if_pos (by rw [BB]; rfl), if_pos trivial]
 have e : G.dp ⟨(dec yA).1.bp, (dec yA).1.aP, (dec yA).1.cF, (dec yA).1.cE, (dec yA).1.commands⟩ jY = some true := by
  rw [Ba _ _ (by rw [Mf]; omega)]
  exact congrArg some JF
 rw [e]
 simp only [Option.bind_some]
 rw [if_pos trivial, if_pos (by simp), if_pos (by simp), N2]
 rfl
theorem Bv : ∀ (n : Nat) (s : RS) (l : List G.Command), (RS.j8 n s l).2.length ≤ l.length + n
 | 0, _, _ => Nat.le_refl _
 | n + 1, s, l => by
   unfold RS.j8; split
   · have := Bv n s.cmd.2 (l ++ [s.cmd.1])
     rw [List.length_append] at this
     simp only [List.length_cons, List.length_nil] at this
     omega
   · show l.length ≤ _; omega
theorem JG (b : List UInt8) : (dec b).1.commands.length ≤ 4294967296 := by
 unfold dec
 split
 · exact Nat.zero_le _
 · rw [cG.ad]
   show (cG.s8 b).2.length ≤ _
   rw [← cG.a8]
   have := Bv ((cG.s6 b).uint 4).1 (cG.s7 b) []
   have := ye (cG.s6 b)
   simp only [List.length_nil] at *
   omega
theorem JH (b : List UInt8) : ((dec b).2.1 = 0 ∧ (dec b).2.2 = 0) ∨ ((dec b).2.1 ≠ 0 ∧ (dec b).1 = jY) := by
 unfold dec
 by_cases h : (cG.s9 b).code = 0
 · rw [if_neg (by simp [h])]; exact .inl ⟨rfl, rfl⟩
 · rw [if_pos h]; exact .inr ⟨h, rfl⟩
theorem Jk {b : List UInt8} (h : b.length ≤ 1099511627776) : ∃ d e p, G.lN b = some (d, ⟨e, p⟩) ∧ G.hC b = some (d, e, p) ∧ d.commands.length ≤ 4294967296 ∧ (e = 0 → G.jK d = some true) := by
 unfold G.lN G.hC
 rw [wx h, Gx h]
 simp only [Option.bind_some]
 have hl := JG b
 rcases JH b with ⟨h1, h2⟩ | ⟨h1, h2⟩
 · rw [h1, h2]
   obtain ⟨e, p, hc, k1, k2⟩ := LN (d := (dec b).1) (by omega)
   have k1' : G.iq ⟨(dec b).1.bp, (dec b).1.aP, (dec b).1.cF, (dec b).1.cE, (dec b).1.commands⟩ = some ⟨e, p⟩ := k1
   have k2' : G.ff ⟨(dec b).1.bp, (dec b).1.aP, (dec b).1.cF, (dec b).1.cE, (dec b).1.commands⟩ = some (e, p) := k2
   simp only [and_self, if_true, k1', k2', Option.bind_some]
   by_cases he : e = 0
   · have hp := hc.zero.2 he
     subst he; subst hp
     refine ⟨(dec b).1, 0, 0, by simp, by simp, hl, fun _ => ?_⟩
     unfold G.jK
     rw [k1]; rfl
   · refine ⟨jY, e, p, ?_, ?_, by show 0 ≤ _; omega, fun h => absurd h he⟩
     · rw [if_pos (by rw [decide_eq_false_iff_not]; exact fun h => he h.1)]; rfl
     · rw [if_pos he]; rfl
 · have n1 : ¬ ((dec b).2.1 = 0 ∧ (dec b).2.2 = 0) := fun h => h1 h.1
   rw [if_neg (c := (dec b).2.1 = 0 ∧ (dec b).2.2 = 0) n1, if_neg (c := (dec b).2.1 = 0) h1]
   simp only [Option.bind_some]
   refine ⟨jY, (dec b).2.1, (dec b).2.2, ?_, ?_, by show 0 ≤ _; omega, fun h => absurd h h1⟩
   · rw [if_pos (by rw [decide_eq_false_iff_not]; exact n1)]; rfl
   · rw [if_pos (by simpa using h1)]; rfl
theorem K5 (l : List (List UInt8)) (hl : l.length ≤ 1000) (hf : l.flatten.length ≤ 1000000) : G.eY l = some (num ((gb 32 (sX l.flatten)).take 8) : Int) := by
 unfold G.eY G.oZ
 rw [NZ l (by omega) (by omega)]
 simp only [Option.bind_some]
 have hlen : (gb 32 (sX l.flatten)).length = 32 := by simp [gb]
 rw [tG _ (by omega)]
 simp only [Option.bind_some]
 have hF : (cG.s0 (gb 32 (sX l.flatten))).Fit := AH (by omega)
 rw [cG.ar, yf hF (by unfold ko; omega)]
 simp only [Option.bind_some]
 rw [kU _ (l := (gb 32 (sX l.flatten)).take 8) (by
  rw [show size 8 = ((8 : Nat) : Int) from rfl, jx _ rfl 8 (by show 0 + 8 ≤ (gb 32 (sX l.flatten)).length; omega)]; rfl)]
theorem LR {b : List UInt8} (hb : b.length ≤ 100000000) : G.fI b = some (num ((gb 32 (sX b)).take 8) : Int) := by
 unfold G.fI G.ml
 rw [GN]
 simp only [Option.bind_some]
 rw [E5 hb]
 simp only [Option.bind_some]
 generalize sX b = f
 have hlen : (gb 32 f).length = 32 := by simp [gb]
 refine bA 8 (fun k => ((num ((gb 32 f).take k) : Int), (k : Int))) _ (fun k hk => ?_) ?_ (by simp [num])
 · unfold G.jq
   dsimp only
   rw [if_pos (by omega), bg (by omega)]
   simp only [Option.bind_some]
   have hk' : k < (gb 32 f).length := by omega
   have hg : aD f (k : Int) = (gb 32 f).getD k 0 := by
    rw [sF _ _ _ hk']
    simp [gb, aD]
   have hlt : num ((gb 32 f).take k) < 72057594037927936 := by
    have := Ar ((gb 32 f).take k)
    have h1 : ((gb 32 f).take k).length ≤ 7 := by rw [List.length_take]; omega
    have : 256 ^ ((gb 32 f).take k).length ≤ 256 ^ 7 := Nat.pow_le_pow_right (by omega) h1
    omega
   rw [hg, OJ _ _ hlt, ← mn _ _ hk', ea hk (by omega)]
 · unfold G.jq
   rw [if_neg (by simp)]
theorem G.kA (a0 : List UInt8) (h0 : DY a0) : G.fp a0 = some true := by
 unfold G.fp
 by_cases h : (a0.length : Int) > 1000
 · rw [if_pos h, GR]; rfl
 · rw [if_neg h]
   obtain ⟨d, e, p, k1, k2, k3, k4⟩ := Jk (b := a0) (by omega)
   rw [k1, k2, GR]
   simp only [Option.bind_some, if_true]
   have e1 : G.dp ⟨d.bp, d.aP, d.cF, d.cE, d.commands⟩ ⟨d.bp, d.aP, d.cF, d.cE, d.commands⟩ = some true := by
    rw [Ba _ _ (by show d.commands.length ≤ _; omega), KM]
   have e2 : G.eY [a0] = some (num ((gb 32 (sX a0)).take 8) : Int) := by
    have := K5 [a0] (by simp) (by simp; omega)
    simpa using this
   have e3 : G.fI a0 = some (num ((gb 32 (sX a0)).take 8) : Int) := LR (by omega)
   have hm : IntKind.i64.wrap (Int.tdiv (a0.length : Int) 2) = ((a0.length / 2 : Nat) : Int) := by
    rw [Int.tdiv_eq_ediv_of_nonneg (by omega), eK (by omega) (by omega)]; rfl
   have e4 : G.eY [a0.take (a0.length / 2), a0.drop (a0.length / 2)] = some (num ((gb 32 (sX a0)).take 8) : Int) := by
    have := K5 [a0.take (a0.length / 2), a0.drop (a0.length / 2)] (by simp) (by simp; omega)
    simpa using this
   rw [e1]
   simp only [Option.bind_some, if_true, e2, e3, hm]
   rw [lu (by omega), rC (by omega)]
   simp only [Option.bind_some, Int.toNat_natCast, e4, beq_self_eq_true]
   by_cases he : e = 0
   · have k4' : G.jK ⟨d.bp, d.aP, d.cF, d.cE, d.commands⟩ = some true := k4 he
     subst he
     rw [k4']
     simp
   · rw [if_pos he]
end Go.Proofs.YtekpafdhgkocaaaGreat
