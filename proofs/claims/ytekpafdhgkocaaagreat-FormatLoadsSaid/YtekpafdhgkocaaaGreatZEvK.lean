/- Part of what the laws need: plain words, the walker and its laws, the program's functions. -/
import Derived.Test.YtekpafdhgkocaaaGreatZEvC
import Derived.Test.YtekpafdhgkocaaaGreatZEvX
namespace Go.Proofs.YtekpafdhgkocaaaGreat
open Go.RowKit G
namespace E
variable {S : Nat → Type} {tb : Tb S} {K : cV tb} {P : Program} {tt : TypeId → Option (TI S)} {Φ : List (bO S)} {fa : FA S} {o : Oper} {xs : List (AV S)} {ob : List (Nat × Nat × AO S)} {ct : Nat} {γ : Type} {k : iH S → Option γ} {r : γ}
theorem AA {c : Call} {b : Builtin} (hc : c.callee = .builtin b) (ho : o.op = .call c) (hl : xs.length = o.op.operands.toList.length) (h1 : xs.length = 1) : ∃ x, c.args = #[x] := by
 rw [ho] at hl
 simp [Op.operands, Call.operands, hc, h1] at hl
 obtain ⟨x, hx⟩ := Array.size_eq_one_iff.1 hl.symm
 exact ⟨x, hx⟩
theorem mX {c : Call} {b : Builtin} (hc : c.callee = .builtin b) (ho : o.op = .call c) (hl : xs.length = o.op.operands.toList.length) (h1 : xs.length = 2) : ∃ x y, c.args = #[x, y] := by
 rw [ho] at hl
 simp [Op.operands, Call.operands, hc, h1] at hl
 match hc : c.args with
 | ⟨[x, y]⟩ => exact ⟨x, y, rfl⟩
 | ⟨[]⟩ => rw [hc] at hl; simp at hl
 | ⟨[_]⟩ => rw [hc] at hl; simp at hl
 | ⟨_ :: _ :: _ :: _⟩ => rw [hc] at hl; simp at hl
theorem D6 (hT : cn P K tt) (hΦ : ∀ c ∈ Φ, Sound P K c) (hl : xs.length = o.op.operands.toList.length) (h : core tb tt Φ fa o xs ob ct k = some r) : cP P K o xs ob ct k r := by
 unfold core at h
 split at h
 case h_1 ho => split at h; exact Ey (.inl ho) h; cases h
 case h_2 ho => split at h; exact Ey (.inr ho) h; cases h
 case h_3 ho => split at h; exact Kg ho h; cases h
 case h_4 ho => split at h; exact Du ho h; cases h
 case h_5 ho =>
  split at h
  · exact B6 ho h
  · cases h
 case h_6 ho => split at h; exact MB hT ho h; cases h
 case h_7 ho => split at h; exact OL ho h; cases h
 case h_8 ho => split at h; exact J9 hT ho h; cases h
 case h_9 ho =>
  split at h
  · obtain ⟨ti, hti, h⟩ := Option.bind_eq_some_iff.1 h
    split at h
    · rename_i fs hd
      obtain ⟨f, hf, h⟩ := Option.bind_eq_some_iff.1 h
      exact Av hT ho hti hd hf h
    · cases h
  · cases h
 case h_10 ho =>
  split at h
  · obtain ⟨ti, hti, h⟩ := Option.bind_eq_some_iff.1 h
    split at h
    · rename_i fs hd
      obtain ⟨f, hf, h⟩ := Option.bind_eq_some_iff.1 h
      obtain ⟨fi, hfi, h⟩ := Option.bind_eq_some_iff.1 h
      exact H0 hT ho hti hd hf hfi h
    · cases h
  · cases h
 case h_11 ho =>
  obtain ⟨ti, hti, h⟩ := Option.bind_eq_some_iff.1 h
  obtain ⟨cs, hcs, h⟩ := Option.bind_eq_some_iff.1 h
  exact HW hT ho hti h hcs
 case h_12 ho =>
  obtain ⟨vs, hvs, h⟩ := Option.bind_eq_some_iff.1 h
  exact B4 ho hvs h
 case h_13 ho =>
  obtain ⟨ti, hti, h⟩ := Option.bind_eq_some_iff.1 h
  exact HV hT ho hti h
 case h_14 ho =>
  split at h
  · obtain ⟨cs, hcs, h⟩ := Option.bind_eq_some_iff.1 h
    exact MC ho hcs h
  · cases h
 case h_15 ho => split at h; exact Kd hT ho h; cases h
 case h_16 ho => split at h; exact H5 hT ho h; cases h
 case h_17 ho =>
  split at h
  · obtain ⟨i, hi, h⟩ := Option.bind_eq_some_iff.1 h
    exact Aw hT ho hi h
  · cases h
 case h_18 ho =>
  obtain ⟨ti, hti, h⟩ := Option.bind_eq_some_iff.1 h
  split at h
  · rename_i hd _
    obtain ⟨i, hi, h⟩ := Option.bind_eq_some_iff.1 h
    obtain ⟨c, hc, h⟩ := Option.bind_eq_some_iff.1 h
    have htd := (hT.ty _ ti hti).td
    rw [hd] at htd
    exact H3 ho htd hi hc h
  · rename_i hd _
    obtain ⟨ei, hei, h⟩ := Option.bind_eq_some_iff.1 h
    obtain ⟨i, hi, h⟩ := Option.bind_eq_some_iff.1 h
    have htd := (hT.ty _ ti hti).td
    rw [hd] at htd
    split at h
    · rename_i h1 h2 h3
      obtain ⟨u, hc, hk⟩ := Option.bind_eq_some_iff.1 h
      have h1 := Nat.eq_of_beq_eq_true h1
      subst h1
      exact B2 hT ho htd hei (Nat.eq_of_beq_eq_true h2) h3 hi (ep hc) hk
    · cases h
  · cases h
 case h_19 ho =>
  split at h
  · obtain ⟨⟨a1, a2⟩, ha, h⟩ := Option.bind_eq_some_iff.1 h
    obtain ⟨⟨b1, b2⟩, hb, h⟩ := Option.bind_eq_some_iff.1 h
    obtain ⟨⟨c1, c2⟩, hc, h⟩ := Option.bind_eq_some_iff.1 h
    split at h
    · split at h
      · exact FY hT ho ha hb hc h
      · exact B7 hT ho ha hb hc h
    · split at h
      · exact Kf hT ho ha hb hc h
      · exact ok_slice hT ho ha hb hc h
  · cases h
 case h_20 ho =>
  obtain ⟨ec, hec, h⟩ := Option.bind_eq_some_iff.1 h
  obtain ⟨ei, hei, h⟩ := Option.bind_eq_some_iff.1 h
  exact yE hT ho hec hei h
 case h_21 ho =>
  split at h
  · split at h
    · rename_i i hi
      exact Dx hT ho hi h
    · split at h
      · rename_i i hi
        exact B1 hT ho hi h
      · obtain ⟨i, hi, h⟩ := Option.bind_eq_some_iff.1 h
        exact B3 hT ho hi h
  · cases h
 case h_22 ho =>
  split at h
  · split at h
    · exact FX hT ho h
    · split at h
      · exact H2 hT ho h
      · exact Dv hT ho h
    · exact Dw hT ho h
  · cases h
 case h_23 ho => split at h; exact B5 hT ho h; cases h
 case h_24 ho => split at h; exact yF hT ho h; cases h
 case h_25 ho =>
  split at h
  · split at h
    · exact Ay hT ho h
    · split at h
      · exact Kb hT ho h
      · cases h
    · exact Ex hT (.inl ho) h
  · cases h
 case h_26 ho => split at h; exact H4 hT ho h; cases h
 case h_27 ho => split at h; exact HZ hT ho h; cases h
 case h_28 ho =>
  split at h
  · rename_i hxy
    obtain ⟨n, hn, h⟩ := Option.bind_eq_some_iff.1 h
    obtain ⟨ec, hec, h⟩ := Option.bind_eq_some_iff.1 h
    obtain ⟨ei, hei, h⟩ := Option.bind_eq_some_iff.1 h
    split at h
    · rename_i h1 hA
      obtain ⟨z, hz, h⟩ := Option.bind_eq_some_iff.1 h
      obtain ⟨u, hu, h⟩ := Option.bind_eq_some_iff.1 h
      exact Ax hT ho hxy hn hec hei h1 hA hz hu h
    · cases h
  · cases h
 case h_29 c ho =>
  split at h
  · rename_i b hb
    obtain ⟨ce, ca, cts⟩ := c
    simp only at hb
    subst hb
    split at h
    · split at h
      · rename_i t ht
        obtain ⟨x, hx⟩ := AA rfl ho hl rfl
        simp only at hx ht
        subst hx
        have : cts = #[t] := by apply Array.ext'; simpa using ht
        subst this
        exact ME hT ho h
      · cases h
    · split at h
      · rename_i t t' ht
        split at h
        · rename_i he
          obtain rfl := Nat.eq_of_beq_eq_true he
          obtain ⟨x, y, hx⟩ := mX rfl ho hl rfl
          simp only at hx ht
          subst hx
          have : cts = #[t, t] := by apply Array.ext'; simpa using ht
          subst this
          split at h
          · exact Dr hT ho h
          · exact FU hT ho h
        · obtain ⟨x, y, hx⟩ := mX rfl ho hl rfl
          simp only at hx ht
          subst hx
          have : cts = #[t, t'] := by apply Array.ext'; simpa using ht
          subst this
          exact Dt hT ho h
      · cases h
    · split at h
      · rename_i t t' ht
        obtain ⟨x, y, hx⟩ := mX rfl ho hl rfl
        simp only at hx ht
        subst hx
        have : cts = #[t, t'] := by apply Array.ext'; simpa using ht
        subst this
        exact Ka hT ho h
      · cases h
    · split at h
      · rename_i t ht
        obtain ⟨x, hx⟩ := AA rfl ho hl rfl
        simp only at hx ht
        subst hx
        have : cts = #[t] := by apply Array.ext'; simpa using ht
        subst this
        exact HX hT ho h
      · cases h
    · split at h
      · rename_i t t' ht
        obtain ⟨x, y, hx⟩ := mX rfl ho hl rfl
        simp only at hx ht
        subst hx
        have : cts = #[t, t'] := by apply Array.ext'; simpa using ht
        subst this
        exact FV hT ho h
      · cases h
    · split at h
      · rename_i t ht
        obtain ⟨ec, hec, h1⟩ := Option.bind_eq_some_iff.1 h
        obtain ⟨x, hx⟩ := AA rfl ho hl rfl
        simp only at hx ht
        subst hx
        have : cts = #[t] := by apply Array.ext'; simpa using ht
        subst this
        exact MD hT ho hec h1
      · cases h
    · obtain ⟨p, hp, h⟩ := Option.bind_eq_some_iff.1 h
      obtain ⟨q, hq, h⟩ := Option.bind_eq_some_iff.1 h
      split at h
      · rename_i hk _
        obtain ⟨x, y, hx⟩ := mX rfl ho hl rfl
        simp only at hx
        subst hx
        exact MG ho hp hq h hk
      · cases h
    · obtain ⟨p, hp, h⟩ := Option.bind_eq_some_iff.1 h
      obtain ⟨q, hq, h⟩ := Option.bind_eq_some_iff.1 h
      split at h
      · rename_i hk _
        obtain ⟨x, y, hx⟩ := mX rfl ho hl rfl
        simp only at hx
        subst hx
        exact MF ho hp hq h hk
      · cases h
    · cases h
  · rename_i y hy
    obtain ⟨ce, ca, cts⟩ := c
    simp only at hy
    subst hy
    split at h
    · split at h
      · rename_i hb
        exact J8 hΦ ho (Nat.le_of_ble_eq_true hb) h
      · cases h
    · obtain ⟨a, _, h⟩ := Option.bind_eq_some_iff.1 h
      split at h
      · exact H6 hΦ ho h
      · cases h
    · cases h
  · cases h
 case h_30 ho => split at h; exact Ex hT (.inr ho) h; cases h
 case h_31 => cases h
theorem JP {v : CV S} {k : Bool → Option γ} {δ : Type} {j : Bool → Option δ} {f : δ → Option γ} (h : ∀ b, k b = (j b).bind f) : Mo v k = (Mo v j).bind f := by
 unfold Mo
 split
 · exact h _
 · split <;> exact h _
 · rfl
theorem bind_eq {α β : Type} {x : Option α} {f g : α → Option β} (h : ∀ a, f a = g a) : x.bind f = x.bind g := by cases x; rfl; exact h _
theorem KW {op : UnOp} {v : CV S} : ND op v k = (ND op v some).bind k := by
 unfold ND; (repeat' (first | rfl | (simp only [Option.bind_assoc, Option.bind_some, Option.bind_none]) | (refine bind_eq fun _ => ?_) | split))
theorem Da {f : TypeId × Nat × Nat} {v : CV S} : rp f v k = (rp f v some).bind k := by
 unfold rp; (repeat' (first | rfl | (simp only [Option.bind_assoc, Option.bind_some, Option.bind_none]) | (refine bind_eq fun _ => ?_) | split))
theorem Fk {s d : TypeId} {v : CV S} : yS tt s d v ob k = (yS tt s d v ob some).bind k := by
 unfold yS; (repeat' (first | rfl | (simp only [Option.bind_assoc, Option.bind_some, Option.bind_none]) | (refine bind_eq fun _ => ?_) | split))
theorem HA {t : TypeId} {v : CV S} : FH tt t v ob k = (FH tt t v ob some).bind k := by
 unfold FH; (repeat' (first | rfl | (simp only [Option.bind_assoc, Option.bind_some, Option.bind_none]) | (refine bind_eq fun _ => ?_) | split))
theorem Bl {t : TypeId} {v w : CV S} : pf tt fa t v w ob ct k = (pf tt fa t v w ob ct some).bind k := by
 unfold pf; (repeat' (first | rfl | (simp only [Option.bind_assoc, Option.bind_some, Option.bind_none]) | (refine bind_eq fun _ => ?_) | split))
theorem zW {t tx : TypeId} {v w : CV S} : mE tb tt t tx v w ob ct k = (mE tb tt t tx v w ob ct some).bind k := by
 unfold mE; (repeat' (first | rfl | (simp only [Option.bind_assoc, Option.bind_some, Option.bind_none]) | (refine bind_eq fun _ => ?_) | split))
theorem xU {t : TypeId} {v : CV S} {a b c : Option Int} : rE tt t v a b c ob ct k = (rE tt t v a b c ob ct some).bind k := by
 unfold rE; (repeat' (first | rfl | (simp only [Option.bind_assoc, Option.bind_some, Option.bind_none]) | (refine bind_eq fun _ => ?_) | split))
theorem CZ {t : TypeId} {v : CV S} : uf tb tt t v ob k = (uf tb tt t v ob some).bind k := by
 unfold uf; (repeat' (first | rfl | (simp only [Option.bind_assoc, Option.bind_some, Option.bind_none]) | (refine bind_eq fun _ => ?_) | split))
theorem zV {t : TypeId} {q : Nat} {d : Co} {l : List (T S d)} {o off n : Nat} {i j : Int} : mD tt t q d l o off n i j ob ct k = (mD tt t q d l o off n i j ob ct some).bind k := by
 unfold mD; (repeat' (first | rfl | (simp only [Option.bind_assoc, Option.bind_some, Option.bind_none]) | (refine bind_eq fun _ => ?_) | split))
theorem Cn {t : TypeId} {o off : Nat} {lo hi mx : Option Int} : pM tt t o off lo hi mx ob k = (pM tt t o off lo hi mx ob some).bind k := by
 unfold pM; (repeat' (first | rfl | (simp only [Option.bind_assoc, Option.bind_some, Option.bind_none]) | (refine bind_eq fun _ => ?_) | split))
theorem F0 {t : TypeId} {v : CV S} {a b c : Option Int} : zA tt t v a b c ob ct k = (zA tt t v a b c ob ct some).bind k := by
 unfold zA
 split
 · (repeat' (first | rfl | (simp only [Option.bind_assoc, Option.bind_some, Option.bind_none]) | (refine bind_eq fun _ => ?_) | split))
 · exact xU
theorem Cp {t : TypeId} {o off : Nat} {a b c : Option Int} : pN tt t o off a b c k = (pN tt t o off a b c some).bind k := by
 unfold pN; (repeat' (first | rfl | (simp only [Option.bind_assoc, Option.bind_some, Option.bind_none]) | (refine bind_eq fun _ => ?_) | split))
theorem Fl {t : TypeId} {v w : CV S} : yU tt t v w ob k = (yU tt t v w ob some).bind k := by
 unfold yU z7; (repeat' (first | rfl | (simp only [Option.bind_assoc, Option.bind_some, Option.bind_none]) | (refine bind_eq fun _ => ?_) | split))
theorem Df {t : TypeId} {y : Operand} {v : CV S} {i : Int} : uw tt t y v i ob k = (uw tt t y v i ob some).bind k := by
 unfold uw; (repeat' (first | rfl | (simp only [Option.bind_assoc, Option.bind_some, Option.bind_none]) | (refine bind_eq fun _ => ?_) | split))
theorem FJ {t : TypeId} {v : CV S} : zn tb tt t v ob k = (zn tb tt t v ob some).bind k := by
 unfold zn pD; (repeat' (first | rfl | (simp only [Option.bind_assoc, Option.bind_some, Option.bind_none]) | (refine bind_eq fun _ => ?_) | split))
theorem DL {t : TypeId} {p : CV S} {a : AV S} : u4 tb tt t p a ob k = (u4 tb tt t p a ob some).bind k := by
 unfold u4; (repeat' (first | rfl | (simp only [Option.bind_assoc, Option.bind_some, Option.bind_none]) | (refine bind_eq fun _ => ?_) | split))
theorem HU {op : BinOp} {kv kw : IntKind} {x z : Int} {y : Operand} {k : CV S → Option γ} {δ : Type} {j : CV S → Option δ} {f : δ → Option γ} (h : ∀ v, k v = (j v).bind f) : FR op kv kw x z y k = (FR op kv kw x z y j).bind f := by
 unfold FR; simp only [h]; (repeat' (first | rfl | (simp only [Option.bind_assoc, Option.bind_some, Option.bind_none]) | (refine bind_eq fun _ => ?_) | split))
theorem Ed {op : BinOp} {t : TypeId} {a b : AV S} {k : CV S → Option γ} {δ : Type} {j : CV S → Option δ} {f : δ → Option γ} (h : ∀ v, k v = (j v).bind f) : Mg tt op t a b k = (Mg tt op t a b j).bind f := by
 unfold Mg kY; simp only [h]; (repeat' (first | rfl | (simp only [Option.bind_assoc, Option.bind_some, Option.bind_none]) | (refine bind_eq fun _ => ?_) | split))
theorem GZ {op : BinOp} {t : TypeId} {y : Operand} {a b : AV S} {k : CV S → Option γ} {δ : Type} {j : CV S → Option δ} {f : δ → Option γ} (h : ∀ v, k v = (j v).bind f) : Fa tt op t y a b k = (Fa tt op t y a b j).bind f := by
 unfold Fa
 split
 · split
   · exact HU h
   · exact Ed h
 · exact Ed h
theorem Bk {δ : Type} {f : δ → Option γ} : ∀ {os : List Out} {y : gH S os} {k : (o : Out) → HT S o.b9 → Option γ} {j : (o : Out) → HT S o.b9 → Option δ}, (∀ o z, k o z = (j o z).bind f) → Jn os y k = (Jn os y j).bind f
 | [], _, _, _, _ => rfl
 | [o], y, _, _, h => h o y
 | o :: _ :: _, Sum.inl z, _, _, h => h o z
 | _ :: p :: os, Sum.inr _, _, _, h => Bk (os := p :: os) h
theorem kL {f : FuncId} {args : List (AV S)} : ∀ {Φ : List (bO S)}, lI tb f args ob ct k Φ = (lI tb f args ob ct some Φ).bind k
 | [] => rfl
 | c :: cs => by
   simp only [lI]
   split
   · exact kL
   · split
     · exact kL
     · rw [Option.bind_assoc]
       refine bind_eq fun y => Bk fun o z => ?_
       split
       · rfl
       · rfl
theorem FK {t : TypeId} {v : CV S} {key : AV S} {c : Bool} : zo tb tt t v key c ob k = (zo tb tt t v key c ob some).bind k := by
 unfold zo; (repeat' (first | rfl | (simp only [Option.bind_assoc, Option.bind_some, Option.bind_none]) | (refine bind_eq fun _ => ?_) | split))
theorem Ie {t : TypeId} {v : CV S} {key w : AV S} : Ca tb tt t v key w ob k = (Ca tb tt t v key w ob some).bind k := by
 unfold Ca; (repeat' (first | rfl | (simp only [Option.bind_assoc, Option.bind_some, Option.bind_none]) | (refine bind_eq fun _ => ?_) | split))
theorem Hb {t : TypeId} {v : CV S} {key : AV S} : Fp tb tt t v key ob k = (Fp tb tt t v key ob some).bind k := by
 unfold Fp; (repeat' (first | rfl | (simp only [Option.bind_assoc, Option.bind_some, Option.bind_none]) | (refine bind_eq fun _ => ?_) | split))
theorem Dc {t : TypeId} {v : CV S} {key : AV S} {c : Bool} : uq tb tt t v key c ob k = (uq tb tt t v key c ob some).bind k := by
 unfold uq; (repeat' (first | rfl | (simp only [Option.bind_assoc, Option.bind_some, Option.bind_none]) | (refine bind_eq fun _ => ?_) | split))
theorem FN {t : TypeId} {v : CV S} {key : AV S} : zt tb tt t v key ob ct k = (zt tb tt t v key ob ct some).bind k := by
 unfold zt; (repeat' (first | rfl | (simp only [Option.bind_assoc, Option.bind_some, Option.bind_none]) | (refine bind_eq fun _ => ?_) | split))
theorem Dz {t : TypeId} {v : CV S} : uK tb tt t v ob ct k = (uK tb tt t v ob ct some).bind k := by
 unfold uK; (repeat' (first | rfl | (simp only [Option.bind_assoc, Option.bind_some, Option.bind_none]) | (refine bind_eq fun _ => ?_) | split))
theorem C6 {v : CV S} : uh tb tt v ob k = (uh tb tt v ob some).bind k := by
 unfold uh; (repeat' (first | rfl | (simp only [Option.bind_assoc, Option.bind_some, Option.bind_none]) | (refine bind_eq fun _ => ?_) | split))
theorem Hf {t : TypeId} {v s : CV S} {w : AV S} : Fv tb tt t v s w ob k = (Fv tb tt t v s w ob some).bind k := by
 unfold Fv; (repeat' (first | rfl | (simp only [Option.bind_assoc, Option.bind_some, Option.bind_none]) | (refine bind_eq fun _ => ?_) | split))
theorem Dd {t : TypeId} {v : CV S} {key : AV S} {c : Bool} : uv tb tt t v key c ob ct k = (uv tb tt t v key c ob ct some).bind k := by
 unfold uv; (repeat' (first | rfl | (simp only [Option.bind_assoc, Option.bind_some, Option.bind_none]) | (refine bind_eq fun _ => ?_) | split))
theorem FD {t : TypeId} {v w : CV S} {key : AV S} : zg tb tt t v key w ob k = (zg tb tt t v key w ob some).bind k := by
 unfold zg Ej; (repeat' (first | rfl | (simp only [Option.bind_assoc, Option.bind_some, Option.bind_none]) | (refine bind_eq fun _ => ?_) | split))
theorem zm {t : TypeId} {v : CV S} {key w : AV S} : xo tb tt t v key w ob k = (xo tb tt t v key w ob some).bind k := by
 unfold xo; (repeat' (first | rfl | (simp only [Option.bind_assoc, Option.bind_some, Option.bind_none]) | (refine bind_eq fun _ => ?_) | split))
theorem zj {q : Nat} {c : Co} {x : T S c} : ∀ {l : List (T S c × CV S)}, xn tb q c x k l = (xn tb q c x some l).bind k
 | [] => rfl
 | p :: l => by
   unfold xn
   split
   · rfl
   · exact zj
theorem Dh {t : TypeId} {v : CV S} {key : AV S} {c : Bool} : uz tb tt t v key c ob k = (uz tb tt t v key c ob some).bind k := by
 unfold uz; (repeat' (first | rfl | exact zj | (simp only [Option.bind_assoc, Option.bind_some, Option.bind_none]) | (refine bind_eq fun _ => ?_) | split))
theorem sv : core tb tt Φ fa o xs ob ct k = (core tb tt Φ fa o xs ob ct some).bind k := by
 unfold core
 split
 case h_3 =>
  split
  · exact JP fun b => by cases b <;> rfl
  · rfl
 case h_6 =>
  split
  · exact GZ fun v => rfl
  · rfl
 case h_7 => split; exact KW; rfl
 case h_8 => split; exact Fk; rfl
 case h_9 =>
  split
  · rw [Option.bind_assoc]
    refine bind_eq fun ti => ?_
    split
    · rw [Option.bind_assoc]; exact bind_eq fun f => Da
    · rfl
  · rfl
 case h_15 => split; exact FJ; rfl
 case h_16 => split; exact DL; rfl
 case h_17 => split; (rw [Option.bind_assoc]; exact bind_eq fun i => Df); rfl
 case h_19 => split; (simp only [Option.bind_assoc]; exact bind_eq fun a => bind_eq fun b => bind_eq fun c => by split; split; exact Cn; exact Cp; split; exact F0; exact xU); rfl
 case h_22 =>
  split
  · split
    · exact FK
    · split
      · exact Dd
      · exact Dc
    · exact Dh
  · rfl
 case h_23 => split; exact FN; rfl
 case h_24 => split; exact Hf; rfl
 case h_25 =>
  split
  · split
    · exact Ie
    · split
      · exact FD
      · rfl
    · exact zm
  · rfl
 case h_26 => split; exact Dz; rfl
 case h_27 => split; exact C6; rfl
 case h_29 =>
  split
  · split
    · split; exact HA; rfl
    · split
      · split
        · split; exact zV; exact Bl
        · exact zW
      · rfl
    · split; exact Fl; rfl
    · split; exact CZ; rfl
    · split; exact Hb; rfl
    · split
      · rw [Option.bind_assoc]; exact bind_eq fun _ => rfl
      · rfl
    · (repeat' (first | rfl | (simp only [Option.bind_assoc, Option.bind_some, Option.bind_none]) | (refine bind_eq fun _ => ?_) | split))
    · (repeat' (first | rfl | (simp only [Option.bind_assoc, Option.bind_some, Option.bind_none]) | (refine bind_eq fun _ => ?_) | split))
    · rfl
  · split
    · split; exact kL; rfl
    · rw [Option.bind_assoc]
      refine bind_eq fun a => ?_
      split
      · exact kL
      · rfl
    · rfl
  · rfl
 case h_30 => split; exact zm; rfl
 all_goals (repeat' (first | rfl | (simp only [Option.bind_assoc, Option.bind_some, Option.bind_none]) | (refine bind_eq fun _ => ?_) | split))
end E
end Go.Proofs.YtekpafdhgkocaaaGreat
