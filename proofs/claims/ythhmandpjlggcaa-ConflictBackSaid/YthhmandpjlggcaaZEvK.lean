/- Part of what the laws need: plain words, the walker and its laws, the program's functions. -/
import Derived.Test.YthhmandpjlggcaaZEvC
import Derived.Test.YthhmandpjlggcaaZEvX
namespace Go.Proofs.Ythhmandpjlggcaa
open Go.RowKit G
namespace E
variable {S : Nat → Type} {tb : Tb S} {K : TbOK tb} {P : Program} {tt : TypeId → Option (TI S)} {Φ : List (Ctr S)} {fa : FA} {o : Oper} {xs : List (AV S)} {ob : List (Nat × Nat × AO S)} {ct : Nat} {γ : Type} {k : Res S → Option γ} {r : γ}
theorem one_arg {c : Call} {b : Builtin} (hc : c.callee = .builtin b) (ho : o.op = .call c) (hl : xs.length = o.op.operands.toList.length) (h1 : xs.length = 1) : ∃ x, c.args = #[x] := by
  rw [ho] at hl
  simp [Op.operands, Call.operands, hc, h1] at hl
  obtain ⟨x, hx⟩ := Array.size_eq_one_iff.1 hl.symm
  exact ⟨x, hx⟩
theorem two_args {c : Call} {b : Builtin} (hc : c.callee = .builtin b) (ho : o.op = .call c) (hl : xs.length = o.op.operands.toList.length) (h1 : xs.length = 2) : ∃ x y, c.args = #[x, y] := by
  rw [ho] at hl
  simp [Op.operands, Call.operands, hc, h1] at hl
  match hc : c.args with
  | ⟨[x, y]⟩ => exact ⟨x, y, rfl⟩
  | ⟨[]⟩ => rw [hc] at hl; simp at hl
  | ⟨[_]⟩ => rw [hc] at hl; simp at hl
  | ⟨_ :: _ :: _ :: _⟩ => rw [hc] at hl; simp at hl
theorem core_ok (hT : TTOK P K tt) (hΦ : ∀ c ∈ Φ, Sound P K c) (hl : xs.length = o.op.operands.toList.length) (h : core tb tt Φ fa o xs ob ct k = some r) : Goes P K o xs ob ct k r := by
  unfold core at h
  split at h
  case h_1 ho => split at h; exact ok_move (.inl ho) h; cases h
  case h_2 ho => split at h; exact ok_move (.inr ho) h; cases h
  case h_3 ho => split at h; exact ok_pick ho h; cases h
  case h_4 ho => split at h; exact ok_extract ho h; cases h
  case h_5 ho =>
    split at h
    · exact ok_nilCheck ho h
    · cases h
  case h_6 ho => split at h; exact ok_bin hT ho h; cases h
  case h_7 ho => split at h; exact ok_un ho h; cases h
  case h_8 ho => split at h; exact ok_conv hT ho h; cases h
  case h_9 ho =>
    split at h
    · obtain ⟨ti, hti, h⟩ := Option.bind_eq_some_iff.1 h
      split at h
      · rename_i fs hd
        obtain ⟨f, hf, h⟩ := Option.bind_eq_some_iff.1 h
        exact ok_fieldAddr hT ho hti hd hf h
      · cases h
    · cases h
  case h_10 ho =>
    split at h
    · obtain ⟨ti, hti, h⟩ := Option.bind_eq_some_iff.1 h
      split at h
      · rename_i fs hd
        obtain ⟨f, hf, h⟩ := Option.bind_eq_some_iff.1 h
        obtain ⟨fi, hfi, h⟩ := Option.bind_eq_some_iff.1 h
        exact ok_field hT ho hti hd hf hfi h
      · cases h
    · cases h
  case h_11 ho =>
    obtain ⟨ti, hti, h⟩ := Option.bind_eq_some_iff.1 h
    obtain ⟨cs, hcs, h⟩ := Option.bind_eq_some_iff.1 h
    exact ok_build hT ho hti h hcs
  case h_12 ho =>
    obtain ⟨vs, hvs, h⟩ := Option.bind_eq_some_iff.1 h
    exact ok_makeFunc ho hvs h
  case h_13 ho =>
    obtain ⟨ti, hti, h⟩ := Option.bind_eq_some_iff.1 h
    exact ok_alloc hT ho hti h
  case h_14 ho =>
    split at h
    · obtain ⟨cs, hcs, h⟩ := Option.bind_eq_some_iff.1 h
      exact ok_box ho hcs h
    · cases h
  case h_15 ho => split at h; exact ok_load hT ho h; cases h
  case h_16 ho => split at h; exact ok_store hT ho h; cases h
  case h_17 ho =>
    split at h
    · obtain ⟨i, hi, h⟩ := Option.bind_eq_some_iff.1 h
      exact ok_indexAddr hT ho hi h
    · cases h
  case h_18 ho =>
    obtain ⟨ti, hti, h⟩ := Option.bind_eq_some_iff.1 h
    split at h
    · rename_i hd _
      obtain ⟨i, hi, h⟩ := Option.bind_eq_some_iff.1 h
      obtain ⟨c, hc, h⟩ := Option.bind_eq_some_iff.1 h
      have htd := (hT.ty _ ti hti).td
      rw [hd] at htd
      exact ok_index ho htd hi hc h
    · rename_i hd _
      obtain ⟨ei, hei, h⟩ := Option.bind_eq_some_iff.1 h
      obtain ⟨i, hi, h⟩ := Option.bind_eq_some_iff.1 h
      have htd := (hT.ty _ ti hti).td
      rw [hd] at htd
      split at h
      · rename_i h1 h2 h3
        obtain ⟨u, hc, hk⟩ := Option.bind_eq_some_iff.1 h
        have h1 := Nat.eq_of_beq_eq_true h1
        subst h1
        exact ok_indexArr hT ho htd hei (Nat.eq_of_beq_eq_true h2) h3 hi (chk_some hc) hk
      · cases h
    · cases h
  case h_19 ho =>
    split at h
    · obtain ⟨⟨a1, a2⟩, ha, h⟩ := Option.bind_eq_some_iff.1 h
      obtain ⟨⟨b1, b2⟩, hb, h⟩ := Option.bind_eq_some_iff.1 h
      obtain ⟨⟨c1, c2⟩, hc, h⟩ := Option.bind_eq_some_iff.1 h
      split at h
      · exact ok_slicePtr hT ho ha hb hc h
      · split at h
        · exact ok_part hT ho ha hb hc h
        · exact ok_slice hT ho ha hb hc h
    · cases h
  case h_20 ho =>
    obtain ⟨ec, hec, h⟩ := Option.bind_eq_some_iff.1 h
    obtain ⟨ei, hei, h⟩ := Option.bind_eq_some_iff.1 h
    exact ok_buildSlice hT ho hec hei h
  case h_21 ho =>
    split at h
    · split at h
      · rename_i i hi
        exact ok_makeMap hT ho hi h
      · split at h
        · rename_i i hi
          exact ok_gmakeMap hT ho hi h
        · obtain ⟨i, hi, h⟩ := Option.bind_eq_some_iff.1 h
          exact ok_kmakeMap hT ho hi h
    · cases h
  case h_22 ho =>
    split at h
    · split at h
      · exact ok_lookup hT ho h
      · split at h
        · exact ok_gtake hT ho h
        · exact ok_glookup hT ho h
      · exact ok_klookup hT ho h
    · cases h
  case h_23 ho => split at h; exact ok_mapEntry hT ho h; cases h
  case h_24 ho => split at h; exact ok_entryStore hT ho h; cases h
  case h_25 ho =>
    split at h
    · split at h
      · exact ok_mapUpdate hT ho h
      · split at h
        · exact ok_gput hT ho h
        · cases h
      · exact ok_kput hT ho h
    · cases h
  case h_26 ho =>
    split at h
    · rename_i hxy
      obtain ⟨n, hn, h⟩ := Option.bind_eq_some_iff.1 h
      obtain ⟨ec, hec, h⟩ := Option.bind_eq_some_iff.1 h
      obtain ⟨ei, hei, h⟩ := Option.bind_eq_some_iff.1 h
      split at h
      · rename_i h1 hA
        obtain ⟨z, hz, h⟩ := Option.bind_eq_some_iff.1 h
        obtain ⟨u, hu, h⟩ := Option.bind_eq_some_iff.1 h
        exact ok_makeSlice hT ho hxy hn hec hei h1 hA hz hu h
      · cases h
    · cases h
  case h_27 c ho =>
    split at h
    · rename_i b hb
      obtain ⟨ce, ca, cts⟩ := c
      simp only at hb
      subst hb
      split at h
      · split at h
        · rename_i t ht
          obtain ⟨x, hx⟩ := one_arg rfl ho hl rfl
          simp only at hx ht
          subst hx
          have : cts = #[t] := by apply Array.ext'; simpa using ht
          subst this
          exact ok_len hT ho h
        · cases h
      · split at h
        · rename_i t t' ht
          split at h
          · rename_i he
            obtain rfl := Nat.eq_of_beq_eq_true he
            obtain ⟨x, y, hx⟩ := two_args rfl ho hl rfl
            simp only at hx ht
            subst hx
            have : cts = #[t, t] := by apply Array.ext'; simpa using ht
            subst this
            exact ok_append hT ho h
          · obtain ⟨x, y, hx⟩ := two_args rfl ho hl rfl
            simp only at hx ht
            subst hx
            have : cts = #[t, t'] := by apply Array.ext'; simpa using ht
            subst this
            exact ok_appendZ hT ho h
        · cases h
      · split at h
        · rename_i t t' ht
          obtain ⟨x, y, hx⟩ := two_args rfl ho hl rfl
          simp only at hx ht
          subst hx
          have : cts = #[t, t'] := by apply Array.ext'; simpa using ht
          subst this
          exact ok_copy hT ho h
        · cases h
      · split at h
        · rename_i t t' ht
          obtain ⟨x, y, hx⟩ := two_args rfl ho hl rfl
          simp only at hx ht
          subst hx
          have : cts = #[t, t'] := by apply Array.ext'; simpa using ht
          subst this
          exact ok_delete hT ho h
        · cases h
      · split at h
        · rename_i t ht
          obtain ⟨ec, hec, h1⟩ := Option.bind_eq_some_iff.1 h
          obtain ⟨x, hx⟩ := one_arg rfl ho hl rfl
          simp only at hx ht
          subst hx
          have : cts = #[t] := by apply Array.ext'; simpa using ht
          subst this
          exact ok_cap hT ho hec h1
        · cases h
      · obtain ⟨p, hp, h⟩ := Option.bind_eq_some_iff.1 h
        obtain ⟨q, hq, h⟩ := Option.bind_eq_some_iff.1 h
        split at h
        · rename_i hk _
          obtain ⟨x, y, hx⟩ := two_args rfl ho hl rfl
          simp only at hx
          subst hx
          exact ok_min ho hp hq h hk
        · cases h
      · obtain ⟨p, hp, h⟩ := Option.bind_eq_some_iff.1 h
        obtain ⟨q, hq, h⟩ := Option.bind_eq_some_iff.1 h
        split at h
        · rename_i hk _
          obtain ⟨x, y, hx⟩ := two_args rfl ho hl rfl
          simp only at hx
          subst hx
          exact ok_max ho hp hq h hk
        · cases h
      · cases h
    · rename_i y hy
      obtain ⟨ce, ca, cts⟩ := c
      simp only at hy
      subst hy
      split at h
      · split at h
        · rename_i hb
          exact ok_call hΦ ho (Nat.le_of_ble_eq_true hb) h
        · cases h
      · obtain ⟨a, _, h⟩ := Option.bind_eq_some_iff.1 h
        split at h
        · exact ok_yield hΦ ho h
        · cases h
      · cases h
    · cases h
  case h_28 => cases h
theorem ifB_nat {v : CV S} {k : Bool → Option γ} {δ : Type} {j : Bool → Option δ} {f : δ → Option γ} (h : ∀ b, k b = (j b).bind f) : ifB v k = (ifB v j).bind f := by
  unfold ifB
  split
  · exact h _
  · split <;> exact h _
  · rfl
theorem bind_eq {α β : Type} {x : Option α} {f g : α → Option β} (h : ∀ a, f a = g a) : x.bind f = x.bind g := by cases x; rfl; exact h _
theorem unK_nat {op : UnOp} {v : CV S} : unK op v k = (unK op v some).bind k := by
  unfold unK; (repeat' (first | rfl | (simp only [Option.bind_assoc, Option.bind_some, Option.bind_none]) | (refine bind_eq fun _ => ?_) | split))
theorem fieldK_nat {f : TypeId × Nat × Nat} {v : CV S} : fieldK f v k = (fieldK f v some).bind k := by
  unfold fieldK; (repeat' (first | rfl | (simp only [Option.bind_assoc, Option.bind_some, Option.bind_none]) | (refine bind_eq fun _ => ?_) | split))
theorem convK_nat {s d : TypeId} {v : CV S} : convK tt s d v ob k = (convK tt s d v ob some).bind k := by
  unfold convK; (repeat' (first | rfl | (simp only [Option.bind_assoc, Option.bind_some, Option.bind_none]) | (refine bind_eq fun _ => ?_) | split))
theorem lenK_nat {t : TypeId} {v : CV S} : lenK tt t v ob k = (lenK tt t v ob some).bind k := by
  unfold lenK; (repeat' (first | rfl | (simp only [Option.bind_assoc, Option.bind_some, Option.bind_none]) | (refine bind_eq fun _ => ?_) | split))
theorem appendK_nat {t : TypeId} {v w : CV S} : appendK tt fa t v w ob ct k = (appendK tt fa t v w ob ct some).bind k := by
  unfold appendK; (repeat' (first | rfl | (simp only [Option.bind_assoc, Option.bind_some, Option.bind_none]) | (refine bind_eq fun _ => ?_) | split))
theorem appendZK_nat {t tx : TypeId} {v w : CV S} : appendZK tb tt t tx v w ob ct k = (appendZK tb tt t tx v w ob ct some).bind k := by
  unfold appendZK; (repeat' (first | rfl | (simp only [Option.bind_assoc, Option.bind_some, Option.bind_none]) | (refine bind_eq fun _ => ?_) | split))
theorem sliceK_nat {t : TypeId} {v : CV S} {a b c : Option Int} : sliceK tt t v a b c ob ct k = (sliceK tt t v a b c ob ct some).bind k := by
  unfold sliceK; (repeat' (first | rfl | (simp only [Option.bind_assoc, Option.bind_some, Option.bind_none]) | (refine bind_eq fun _ => ?_) | split))
theorem partK_nat {t : TypeId} {v : CV S} {a b c : Option Int} : partK tt t v a b c ob ct k = (partK tt t v a b c ob ct some).bind k := by
  unfold partK
  split
  · (repeat' (first | rfl | (simp only [Option.bind_assoc, Option.bind_some, Option.bind_none]) | (refine bind_eq fun _ => ?_) | split))
  · exact sliceK_nat
theorem slicePK_nat {t : TypeId} {o off : Nat} {a b c : Option Int} : slicePK tt t o off a b c k = (slicePK tt t o off a b c some).bind k := by
  unfold slicePK; (repeat' (first | rfl | (simp only [Option.bind_assoc, Option.bind_some, Option.bind_none]) | (refine bind_eq fun _ => ?_) | split))
theorem copyK_nat {t : TypeId} {v w : CV S} : copyK tt t v w ob k = (copyK tt t v w ob some).bind k := by
  unfold copyK copyPK; (repeat' (first | rfl | (simp only [Option.bind_assoc, Option.bind_some, Option.bind_none]) | (refine bind_eq fun _ => ?_) | split))
theorem indexK_nat {t : TypeId} {y : Operand} {v : CV S} {i : Int} : indexK tt t y v i ob k = (indexK tt t y v i ob some).bind k := by
  unfold indexK; (repeat' (first | rfl | (simp only [Option.bind_assoc, Option.bind_some, Option.bind_none]) | (refine bind_eq fun _ => ?_) | split))
theorem loadK_nat {t : TypeId} {v : CV S} : loadK tb tt t v ob k = (loadK tb tt t v ob some).bind k := by
  unfold loadK loadOut; (repeat' (first | rfl | (simp only [Option.bind_assoc, Option.bind_some, Option.bind_none]) | (refine bind_eq fun _ => ?_) | split))
theorem storeK_nat {t : TypeId} {p : CV S} {a : AV S} : storeK tb tt t p a ob k = (storeK tb tt t p a ob some).bind k := by
  unfold storeK; (repeat' (first | rfl | (simp only [Option.bind_assoc, Option.bind_some, Option.bind_none]) | (refine bind_eq fun _ => ?_) | split))
theorem numK_nat {op : BinOp} {kv kw : IntKind} {x z : Int} {y : Operand} {k : CV S → Option γ} {δ : Type} {j : CV S → Option δ} {f : δ → Option γ} (h : ∀ v, k v = (j v).bind f) : numK op kv kw x z y k = (numK op kv kw x z y j).bind f := by
  unfold numK; simp only [h]; (repeat' (first | rfl | (simp only [Option.bind_assoc, Option.bind_some, Option.bind_none]) | (refine bind_eq fun _ => ?_) | split))
theorem eqK_nat {op : BinOp} {t : TypeId} {a b : AV S} {k : CV S → Option γ} {δ : Type} {j : CV S → Option δ} {f : δ → Option γ} (h : ∀ v, k v = (j v).bind f) : eqK tt op t a b k = (eqK tt op t a b j).bind f := by
  unfold eqK eqOut; simp only [h]; (repeat' (first | rfl | (simp only [Option.bind_assoc, Option.bind_some, Option.bind_none]) | (refine bind_eq fun _ => ?_) | split))
theorem binK_nat {op : BinOp} {t : TypeId} {y : Operand} {a b : AV S} {k : CV S → Option γ} {δ : Type} {j : CV S → Option δ} {f : δ → Option γ} (h : ∀ v, k v = (j v).bind f) : binK tt op t y a b k = (binK tt op t y a b j).bind f := by
  unfold binK
  split
  · split
    · exact numK_nat h
    · exact eqK_nat h
  · exact eqK_nat h
theorem altK_nat {δ : Type} {f : δ → Option γ} : ∀ {os : List Out} {y : AltT S os} {k : (o : Out) → HT S o.ls' → Option γ} {j : (o : Out) → HT S o.ls' → Option δ}, (∀ o z, k o z = (j o z).bind f) → altK os y k = (altK os y j).bind f
  | [], _, _, _, _ => rfl
  | [o], y, _, _, h => h o y
  | o :: _ :: _, Sum.inl z, _, _, h => h o z
  | _ :: p :: os, Sum.inr _, _, _, h => altK_nat (os := p :: os) h
theorem callK_nat {f : FuncId} {args : List (AV S)} : ∀ {Φ : List (Ctr S)}, callK tb f args ob ct k Φ = (callK tb f args ob ct some Φ).bind k
  | [] => rfl
  | c :: cs => by
    simp only [callK]
    split
    · exact callK_nat
    · split
      · exact callK_nat
      · rw [Option.bind_assoc]
        refine bind_eq fun y => altK_nat fun o z => ?_
        split
        · rfl
        · rfl
theorem lookK_nat {t : TypeId} {v : CV S} {key : AV S} {c : Bool} : lookK tb tt t v key c ob k = (lookK tb tt t v key c ob some).bind k := by
  unfold lookK; (repeat' (first | rfl | (simp only [Option.bind_assoc, Option.bind_some, Option.bind_none]) | (refine bind_eq fun _ => ?_) | split))
theorem putK_nat {t : TypeId} {v : CV S} {key w : AV S} : putK tb tt t v key w ob k = (putK tb tt t v key w ob some).bind k := by
  unfold putK; (repeat' (first | rfl | (simp only [Option.bind_assoc, Option.bind_some, Option.bind_none]) | (refine bind_eq fun _ => ?_) | split))
theorem delK_nat {t : TypeId} {v : CV S} {key : AV S} : delK tb tt t v key ob k = (delK tb tt t v key ob some).bind k := by
  unfold delK; (repeat' (first | rfl | (simp only [Option.bind_assoc, Option.bind_some, Option.bind_none]) | (refine bind_eq fun _ => ?_) | split))
theorem glookK_nat {t : TypeId} {v : CV S} {key : AV S} {c : Bool} : glookK tb tt t v key c ob k = (glookK tb tt t v key c ob some).bind k := by
  unfold glookK; (repeat' (first | rfl | (simp only [Option.bind_assoc, Option.bind_some, Option.bind_none]) | (refine bind_eq fun _ => ?_) | split))
theorem mentK_nat {t : TypeId} {v : CV S} {key : AV S} : mentK tb tt t v key ob ct k = (mentK tb tt t v key ob ct some).bind k := by
  unfold mentK; (repeat' (first | rfl | (simp only [Option.bind_assoc, Option.bind_some, Option.bind_none]) | (refine bind_eq fun _ => ?_) | split))
theorem estK_nat {t : TypeId} {v s : CV S} {w : AV S} : estK tb tt t v s w ob k = (estK tb tt t v s w ob some).bind k := by
  unfold estK; (repeat' (first | rfl | (simp only [Option.bind_assoc, Option.bind_some, Option.bind_none]) | (refine bind_eq fun _ => ?_) | split))
theorem gtakeK_nat {t : TypeId} {v : CV S} {key : AV S} {c : Bool} : gtakeK tb tt t v key c ob ct k = (gtakeK tb tt t v key c ob ct some).bind k := by
  unfold gtakeK; (repeat' (first | rfl | (simp only [Option.bind_assoc, Option.bind_some, Option.bind_none]) | (refine bind_eq fun _ => ?_) | split))
theorem gputK_nat {t : TypeId} {v w : CV S} {key : AV S} : gputK tb tt t v key w ob k = (gputK tb tt t v key w ob some).bind k := by
  unfold gputK holeK; (repeat' (first | rfl | (simp only [Option.bind_assoc, Option.bind_some, Option.bind_none]) | (refine bind_eq fun _ => ?_) | split))
theorem kputK_nat {t : TypeId} {v : CV S} {key w : AV S} : kputK tb tt t v key w ob k = (kputK tb tt t v key w ob some).bind k := by
  unfold kputK; (repeat' (first | rfl | (simp only [Option.bind_assoc, Option.bind_some, Option.bind_none]) | (refine bind_eq fun _ => ?_) | split))
theorem kfind_nat {q : Nat} {c : Co} {x : T S c} : ∀ {l : List (T S c × CV S)}, kfind tb q c x k l = (kfind tb q c x some l).bind k
  | [] => rfl
  | p :: l => by
    unfold kfind
    split
    · rfl
    · exact kfind_nat
theorem klookK_nat {t : TypeId} {v : CV S} {key : AV S} {c : Bool} : klookK tb tt t v key c ob k = (klookK tb tt t v key c ob some).bind k := by
  unfold klookK; (repeat' (first | rfl | exact kfind_nat | (simp only [Option.bind_assoc, Option.bind_some, Option.bind_none]) | (refine bind_eq fun _ => ?_) | split))
theorem core_nat : core tb tt Φ fa o xs ob ct k = (core tb tt Φ fa o xs ob ct some).bind k := by
  unfold core
  split
  case h_3 =>
    split
    · exact ifB_nat fun b => by cases b <;> rfl
    · rfl
  case h_6 =>
    split
    · exact binK_nat fun v => rfl
    · rfl
  case h_7 => split; exact unK_nat; rfl
  case h_8 => split; exact convK_nat; rfl
  case h_9 =>
    split
    · rw [Option.bind_assoc]
      refine bind_eq fun ti => ?_
      split
      · rw [Option.bind_assoc]; exact bind_eq fun f => fieldK_nat
      · rfl
    · rfl
  case h_15 => split; exact loadK_nat; rfl
  case h_16 => split; exact storeK_nat; rfl
  case h_17 => split; (rw [Option.bind_assoc]; exact bind_eq fun i => indexK_nat); rfl
  case h_19 => split; (simp only [Option.bind_assoc]; exact bind_eq fun a => bind_eq fun b => bind_eq fun c => by split; exact slicePK_nat; split; exact partK_nat; exact sliceK_nat); rfl
  case h_22 =>
    split
    · split
      · exact lookK_nat
      · split
        · exact gtakeK_nat
        · exact glookK_nat
      · exact klookK_nat
    · rfl
  case h_23 => split; exact mentK_nat; rfl
  case h_24 => split; exact estK_nat; rfl
  case h_25 =>
    split
    · split
      · exact putK_nat
      · split
        · exact gputK_nat
        · rfl
      · exact kputK_nat
    · rfl
  case h_27 =>
    split
    · split
      · split; exact lenK_nat; rfl
      · split
        · split; exact appendK_nat; exact appendZK_nat
        · rfl
      · split; exact copyK_nat; rfl
      · split; exact delK_nat; rfl
      · split
        · rw [Option.bind_assoc]; exact bind_eq fun _ => rfl
        · rfl
      · (repeat' (first | rfl | (simp only [Option.bind_assoc, Option.bind_some, Option.bind_none]) | (refine bind_eq fun _ => ?_) | split))
      · (repeat' (first | rfl | (simp only [Option.bind_assoc, Option.bind_some, Option.bind_none]) | (refine bind_eq fun _ => ?_) | split))
      · rfl
    · split
      · split; exact callK_nat; rfl
      · rw [Option.bind_assoc]
        refine bind_eq fun a => ?_
        split
        · exact callK_nat
        · rfl
      · rfl
    · rfl
  all_goals (repeat' (first | rfl | (simp only [Option.bind_assoc, Option.bind_some, Option.bind_none]) | (refine bind_eq fun _ => ?_) | split))
end E
end Go.Proofs.Ythhmandpjlggcaa
