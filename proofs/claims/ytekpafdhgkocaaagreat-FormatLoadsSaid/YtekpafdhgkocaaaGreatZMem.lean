/- Part of what the laws need: plain words, the walker and its laws, the program's functions. -/
import Derived.WalkKit
import Derived.Deep.MidRow
import Derived.Deep.QuietTactic
import Derived.BigQuiet
import Derived.Deep.RegionWith
import Derived.Lib.Hide
import Derived.WalkSpells
import Derived.Lib.SlBytesConst
import Derived.Laws.BytesArg
import Derived.Deep.AppendSrc
import Derived.RangeFuncRecord
import Derived.OrdersIn
import Derived.TacticsIn
namespace Go.Proofs.YtekpafdhgkocaaaGreat
open Go.RowKit
structure Mem where
 w : World
 im : Nat → Nat → Prop
def Mem.ok (m : Mem) (b o : Nat) : Prop := m.im b o ∧ b < m.w.heap.size
structure Le (m m' : Mem) : Prop where
 os : m'.w.os = m.w.os
 tape : m'.w.tape = m.w.tape
 output : m'.w.output = m.w.output
 size : m.w.heap.size ≤ m'.w.heap.size
 same : ∀ b o, m.ok b o → m'.ok b o ∧ m'.w.cell? ⟨b, o, none⟩ = m.w.cell? ⟨b, o, none⟩
theorem Le.refl (m : Mem) : Le m m := ⟨rfl, rfl, rfl, Nat.le_refl _, fun _ _ h => ⟨h, rfl⟩⟩
theorem Le.trans {a b c : Mem} (h : Le a b) (k : Le b c) : Le a c :=
 ⟨k.os.trans h.os, k.tape.trans h.tape, k.output.trans h.output, Nat.le_trans h.size k.size, fun x o hx =>
  ⟨(k.same x o (h.same x o hx).1).1, ((k.same x o (h.same x o hx).1).2).trans (h.same x o hx).2⟩⟩
structure az where
 blocks : List Nat
 Db : Nat → Nat → Prop
 ok : World → Prop
 lt : ∀ w, ok w → ∀ b ∈ blocks, b < w.heap.size
 loc : ∀ w w', ok w → (∀ b ∈ blocks, w'.heap[b]? = w.heap[b]?) → ok w'
theorem jE {w : World} {b : Nat} {o : Obj} (h : w.heap[b]? = some o) : b < w.heap.size := (Array.getElem?_eq_some_iff.1 h).1
def az.box (b : Nat) (cs : Array Value) (T : TypeId) : az :=
 ⟨[b], fun _ _ => True, fun w => w.heap[b]? = some (.cells cs T (0, 0)), fun w h c hc => by simp at hc; subst hc; exact jE h,
  fun w w' h hs => by rw [hs b (by simp)]; exact h⟩
def az.obj (b : Nat) (o : Obj) : az :=
 ⟨[b], fun _ _ => True, fun w => w.heap[b]? = some o, fun w h c hc => by simp at hc; subst hc; exact jE h,
  fun w w' h hs => by rw [hs b (by simp)]; exact h⟩
def az.row (g : Option Nat) (T : TypeId) (size n : Nat) : az :=
 ⟨g.toList, fun _ o => n ≤ o, fun w => ∀ b, g = some b → ∃ cur, w.heap[b]? = some (.cells cur T (0, 0)) ∧ cur.size = size,
  fun w h c hc => by
   have : g = some c := by cases g <;> simp_all
   obtain ⟨cur, h1, _⟩ := h c this
   exact jE h1,
  fun w w' h hs b hb => by
   obtain ⟨cur, h1, h2⟩ := h b hb
   exact ⟨cur, by rw [hs b (by rw [hb]; simp)]; exact h1, h2⟩⟩
def ak (L : List az) : List Nat := L.flatMap (·.blocks)
@[simp] theorem Jt : ak [] = [] := rfl
@[simp] theorem cu (e : az) (L : List az) : ak (e :: L) = e.blocks ++ ak L := rfl
@[simp] theorem bF (L R : List az) : ak (L ++ R) = ak L ++ ak R := by simp [ak]
theorem bH {L : List az} {b : Nat} : b ∈ ak L ↔ ∃ e ∈ L, b ∈ e.blocks := by simp [ak]
structure Ow (m : Mem) (L : List az) : Prop where
 nodup : (ak L).Nodup
 ok : ∀ e ∈ L, e.ok m.w
 apart : ∀ e ∈ L, ∀ b ∈ e.blocks, ∀ o, e.Db b o → ¬ m.ok b o
structure St (B : List Nat) (m0 m : Mem) (L : List az) : Prop where
 le : Le m0 m
 kept : ∀ b, b < m0.w.heap.size → b ∉ B → m.w.heap[b]? = m0.w.heap[b]?
 news : ∀ b o, m.ok b o → m0.ok b o ∨ m0.w.heap.size ≤ b ∨ b ∈ B
 ow : Ow m L
 wJ : ∀ b ∈ ak L, b ∈ B ∨ m0.w.heap.size ≤ b
section
variable {B : List Nat} {m0 m m' : Mem} {L R L' : List az} {e e' : az}
theorem St.refl (h : Ow m L) : St (ak L) m m L :=
 ⟨Le.refl m, fun _ _ _ => rfl, fun _ _ h => .inl h, h, fun _ h => .inl h⟩
theorem Ow.lt (h : Ow m L) {b : Nat} (hb : b ∈ ak L) : b < m.w.heap.size := by
 obtain ⟨e, he, hbe⟩ := bH.1 hb
 exact e.lt _ (h.ok e he) b hbe
theorem Ow.right (h : Ow m (L ++ R)) : Ow m R :=
 ⟨by have := h.nodup; rw [bF] at this; exact (List.nodup_append.1 this).2.1, fun e he => h.ok e (by simp [he]), fun e he => h.apart e (by simp [he])⟩
theorem Ow.left (h : Ow m (L ++ R)) : Ow m L :=
 ⟨by have := h.nodup; rw [bF] at this; exact (List.nodup_append.1 this).1, fun e he => h.ok e (by simp [he]), fun e he => h.apart e (by simp [he])⟩
theorem Ow.nil (m : Mem) : Ow m [] := ⟨List.nodup_nil, fun e h => (by cases h), fun e h => (by cases h)⟩
theorem St.frame (h : St B m0 m (L ++ R)) (k : St (ak L) m m' L') : St B m0 m' (L' ++ R) := by
 have hn := h.ow.nodup
 rw [bF] at hn
 obtain ⟨_, nR, nLR⟩ := List.nodup_append.1 hn
 have hR := h.ow.right
 have out : ∀ b ∈ ak R, b ∉ ak L := fun b hb hl => nLR b hl b hb rfl
 have hlt : ∀ b ∈ ak R, b < m.w.heap.size := fun b hb => hR.lt hb
 refine ⟨h.le.trans k.le, fun b hb hB => ?_, fun b o ho => ?_, ⟨?_, fun e he => ?_, fun e he b hb o ho hm => ?_⟩, fun b hb => ?_⟩
 · rw [k.kept b (Nat.lt_of_lt_of_le hb h.le.size) (fun hl => ?_), h.kept b hb hB]
   rcases h.wJ b (by rw [bF]; exact List.mem_append_left _ hl) with h1 | h1
   · exact hB h1
   · omega
 · rcases k.news b o ho with h1 | h1 | h1
   · exact h.news b o h1
   · exact .inr (.inl (Nat.le_trans h.le.size h1))
   · rcases h.wJ b (by rw [bF]; exact List.mem_append_left _ h1) with h2 | h2
     · exact .inr (.inr h2)
     · exact .inr (.inl h2)
 · rw [bF]
   refine List.nodup_append.2 ⟨k.ow.nodup, nR, fun a ha b hb => ?_⟩
   rintro rfl
   rcases k.wJ a ha with h1 | h1
   · exact out a hb h1
   · have := hlt a hb; omega
 · rcases List.mem_append.1 he with h1 | h1
   · exact k.ow.ok e h1
   · exact e.loc _ _ (hR.ok e h1) fun b hb => k.kept b (hlt b (bH.2 ⟨e, h1, hb⟩)) (out b (bH.2 ⟨e, h1, hb⟩))
 · rcases List.mem_append.1 he with h1 | h1
   · exact k.ow.apart e h1 b hb o ho hm
   · have hbr := bH.2 ⟨e, h1, hb⟩
     rcases k.news b o hm with h2 | h2 | h2
     · exact hR.apart e h1 b hb o ho h2
     · have := hlt b hbr; omega
     · exact out b hbr h2
 · rw [bF] at hb
   rcases List.mem_append.1 hb with h1 | h1
   · rcases k.wJ b h1 with h2 | h2
     · exact h.wJ b (by rw [bF]; exact List.mem_append_left _ h2)
     · exact .inr (Nat.le_trans h.le.size h2)
   · exact h.wJ b (by rw [bF]; exact List.mem_append_right _ h1)
theorem St.call (h : St B m0 m R) (k : St [] m m' L') : St B m0 m' (L' ++ R) := St.frame (L := []) h k
theorem Ow.perm (h : Ow m L) (p : List.Perm L R) : Ow m R :=
 ⟨((List.Perm.flatMap_right az.blocks p).nodup_iff).1 h.nodup, fun e he => h.ok e (p.mem_iff.2 he), fun e he => h.apart e (p.mem_iff.2 he)⟩
theorem St.perm (h : St B m0 m L) (p : List.Perm L R) : St B m0 m R :=
 ⟨h.le, h.kept, h.news, h.ow.perm p, fun b hb => h.wJ b (by
  obtain ⟨e, he, hbe⟩ := bH.1 hb
  exact bH.2 ⟨e, p.mem_iff.2 he, hbe⟩)⟩
theorem xF : ∀ (L : List az) (i : Nat) (e : az), L[i]? = some e → List.Perm L (e :: L.eraseIdx i)
 | [], _, _, h => by simp at h
 | x :: L, 0, e, h => by simp at h; subst h; exact List.Perm.refl _
 | x :: L, i + 1, e, h => by
   simp at h
   exact ((xF L i e h).cons x).trans (List.Perm.swap e x _)
theorem St.front (h : St B m0 m L) (i : Nat) (hi : L[i]? = some e) : St B m0 m (e :: L.eraseIdx i) := h.perm (xF L i e hi)
theorem St.drop (h : St B m0 m (e :: L)) : St B m0 m L :=
 ⟨h.le, h.kept, h.news, Ow.right (L := [e]) h.ow, fun b hb => h.wJ b (by rw [cu]; exact List.mem_append_right _ hb)⟩
theorem St.ux (h : St B m0 m (L ++ R)) : St B m0 m L :=
 ⟨h.le, h.kept, h.news, Ow.left h.ow, fun b hb => h.wJ b (by rw [bF]; exact List.mem_append_left _ hb)⟩
def Mem.oq (m : Mem) (X : Nat → Nat → Prop) : Mem := ⟨m.w, fun b o => m.ok b o ∨ X b o⟩
theorem Le.oq (m : Mem) (X : Nat → Nat → Prop) : Le m (m.oq X) := ⟨rfl, rfl, rfl, Nat.le_refl _, fun _ _ h => ⟨⟨.inl h, h.2⟩, rfl⟩⟩
theorem St.oq (h : St B m0 m (e :: R)) (X : Nat → Nat → Prop) (hX : ∀ b o, X b o → b ∈ e.blocks) (hok : e'.ok m.w) (hb : ∀ b ∈ e'.blocks, b ∈ e.blocks) (hn : e'.blocks.Nodup)
 (hf : ∀ b ∈ e'.blocks, ∀ o, e'.Db b o → e.Db b o ∧ ¬ X b o) : St B m0 (m.oq X) (e' :: R) := by
 have k : St (ak [e]) m (m.oq X) [e'] := by
  refine ⟨Le.oq m X, fun _ _ _ => rfl, fun b o ho => ?_, ⟨by simpa using hn, fun x hx => ?_, fun x hx b hbb o ho hm => ?_⟩, fun b hbb => ?_⟩
  · rcases ho.1 with h1 | h1
    · exact .inl h1
    · exact .inr (.inr (by simpa using hX b o h1))
  · simp at hx; subst hx; exact hok
  · simp at hx; subst hx
    obtain ⟨h1, h2⟩ := hf b hbb o ho
    rcases hm.1 with h3 | h3
    · exact h.ow.apart e (by simp) b (hb b hbb) o h1 h3
    · exact h2 h3
  · simp at hbb; exact .inl (by simpa using hb b hbb)
 exact St.frame (L := [e]) h k
@[reducible] def Mem.up (m : Mem) (w' : World) : Mem := ⟨w', fun b o => m.ok b o ∨ m.w.heap.size ≤ b⟩
theorem pA {w w' : World} (h : Below w.heap.size w w') {b o : Nat} (hb : b < w.heap.size) : w'.cell? ⟨b, o, none⟩ = w.cell? ⟨b, o, none⟩ := by
 unfold World.cell?; rw [Below.block h b hb]
theorem Le.up (m : Mem) {w' : World} (h : Below m.w.heap.size m.w w') : Le m (m.up w') :=
 ⟨Below.os h, Below.tape h, Below.output h, Below.size h, fun b o hb => ⟨⟨.inl hb, Nat.lt_of_lt_of_le hb.2 (Below.size h)⟩, pA h hb.2⟩⟩
theorem St.up (m : Mem) {w' : World} (h : Below m.w.heap.size m.w w') : St [] m (m.up w') [] :=
 ⟨Le.up m h, fun b hb _ => Below.block h b hb, fun b o ho => ho.1.imp id .inl, Ow.nil _, fun b hb => by simp at hb⟩
theorem St.below (h : St [] m m' L) : Below m.w.heap.size m.w m'.w :=
 ⟨h.le.os, h.le.tape, h.le.output, h.le.size, fun b hb => h.kept b hb (by simp)⟩
theorem St.new {o : Obj} (h : St B m0 m L) {w' : World} (hw : w' = m.w.alloc o) (e : az) (hb : e.blocks = [m.w.heap.size]) (hok : e.ok w') : St B m0 ⟨w', m.ok⟩ (e :: L) := by
 subst hw
 have k : St [] m ⟨m.w.alloc o, m.ok⟩ [e] := by
  have hg : Below m.w.heap.size m.w (m.w.alloc o) := (Below.refl _ _).alloc (Nat.le_refl _) o
  refine ⟨⟨rfl, rfl, rfl, Below.size hg, fun b x hx => ⟨⟨hx, Nat.lt_of_lt_of_le hx.2 (Below.size hg)⟩, pA hg hx.2⟩⟩, fun b hb _ => Below.block hg b hb, fun b x hx => .inl hx.1, ⟨by simp [hb], fun x hx => ?_, fun x hx c hc q _ hm => ?_⟩, fun c hc => ?_⟩
  · simp at hx; subst hx; exact hok
  · simp at hx; subst hx
    rw [hb] at hc; simp at hc; subst hc
    exact absurd hm.1.2 (by simp)
  · simp [hb] at hc; subst hc; exact .inr (Nat.le_refl _)
 exact h.call k
theorem cI (w : World) (o : Obj) : (w.alloc o).heap[w.heap.size]? = some o := heap_alloc_new w o
theorem St.uF (h : St B m0 m L) (cs : Array Value) (T : TypeId) : St B m0 ⟨m.w.alloc (.cells cs T (0, 0)), m.ok⟩ (.box m.w.heap.size cs T :: L) :=
 h.new rfl (.box m.w.heap.size cs T) rfl (cI _ _)
theorem St.HO (h : St B m0 m L) (o : Obj) : St B m0 (m.up (m.w.alloc o)) L := h.call (St.up m ((Below.refl _ _).alloc (Nat.le_refl _) o))
theorem St.drew (h : St B m0 m L) : St B m0 (m.up m.w.drew) L := h.call (St.up m (Below.refl _ _).drew)
theorem St.write {b : Nat} {cs cs' : Array Value} {T : TypeId} (h : St B m0 m (.box b cs T :: R)) {w' : World} (hw : m.w.grownBy w' (some b)) (hsz : w'.heap.size = m.w.heap.size) (hb : w'.heap[b]? = some (.cells cs' T (0, 0))) :
 St B m0 ⟨w', m.ok⟩ (.box b cs' T :: R) := by
 have hap := h.ow.apart (.box b cs T) (by simp) b (by simp [az.box])
 have k : St (ak [az.box b cs T]) m ⟨w', m.ok⟩ [az.box b cs' T] := by
  have hk : ∀ c, c < m.w.heap.size → c ≠ b → w'.heap[c]? = m.w.heap[c]? := fun c hc hne => hw.block c hc (fun e => hne (by cases e; rfl))
  refine ⟨⟨hw.os, hw.tape, hw.output, hw.size, fun c o hc => ⟨⟨hc, by simpa [hsz] using hc.2⟩, ?_⟩⟩, fun c hc hn => hk c hc (by simpa [az.box] using hn), fun c o hc => .inl hc.1, ⟨by simp [az.box], fun x hx => ?_, fun x hx c hc o _ hm => ?_⟩, fun c hc => ?_⟩
  · have hne : c ≠ b := fun e => by subst e; exact hap o trivial hc
    show w'.cell? _ = m.w.cell? _
    unfold World.cell?
    rw [hk c hc.2 hne]
  · simp at hx; subst hx; exact hb
  · simp at hx; subst hx
    simp [az.box] at hc; subst hc
    exact hap o trivial hm.1
  · simp [az.box] at hc; subst hc; exact .inl (by simp [az.box])
 exact St.frame (L := [az.box b cs T]) h k
theorem St.wK {b : Nat} {cs : Array Value} {T : TypeId} (h : St B m0 m L) (i : Nat) (hi : L[i]? = some (.box b cs T)) : m.w.heap[b]? = some (.cells cs T (0, 0)) :=
 h.ow.ok _ (List.mem_of_getElem? hi)
theorem St.BZ {b : Nat} {o : Obj} (h : St B m0 m L) (i : Nat) (hi : L[i]? = some (.obj b o)) : m.w.heap[b]? = some o :=
 h.ow.ok _ (List.mem_of_getElem? hi)
theorem St.jd {b : Nat} {o o' : Obj} (h : St B m0 m (.obj b o :: R)) {w' : World} (hw : m.w.grownBy w' (some b)) (hsz : w'.heap.size = m.w.heap.size) (hb : w'.heap[b]? = some o') :
 St B m0 ⟨w', m.ok⟩ (.obj b o' :: R) := by
 have hap := h.ow.apart (.obj b o) (by simp) b (by simp [az.obj])
 have k : St (ak [az.obj b o]) m ⟨w', m.ok⟩ [az.obj b o'] := by
  have hk : ∀ c, c < m.w.heap.size → c ≠ b → w'.heap[c]? = m.w.heap[c]? := fun c hc hne => hw.block c hc (fun e => hne (by cases e; rfl))
  refine ⟨⟨hw.os, hw.tape, hw.output, hw.size, fun c o hc => ⟨⟨hc, by simpa [hsz] using hc.2⟩, ?_⟩⟩, fun c hc hn => hk c hc (by simpa [az.obj] using hn), fun c o hc => .inl hc.1, ⟨by simp [az.obj], fun x hx => ?_, fun x hx c hc o _ hm => ?_⟩, fun c hc => ?_⟩
  · have hne : c ≠ b := fun e => by subst e; exact hap o trivial hc
    show w'.cell? _ = m.w.cell? _
    unfold World.cell?
    rw [hk c hc.2 hne]
  · simp at hx; subst hx; exact hb
  · simp at hx; subst hx
    simp [az.obj] at hc; subst hc
    exact hap o trivial hm.1
  · simp [az.obj] at hc; subst hc; exact .inl (by simp [az.obj])
 exact St.frame (L := [az.obj b o]) h k
end
def Spec (P : Program) (f : FuncId) (args : Array Value) (m : Mem) (L : List az) (Q : Value → Mem → List az → Prop) : Prop :=
 Calls P f args m.w fun e w' => ∃ v m' L', e = .returned v ∧ m'.w = w' ∧ St (ak L) m m' L' ∧ Q v m' L'
theorem Spec.mono {P : Program} {f : FuncId} {args : Array Value} {m : Mem} {L : List az} {Q Q' : Value → Mem → List az → Prop} (h : Spec P f args m L Q) (hq : ∀ v m' L', Q v m' L' → Q' v m' L') : Spec P f args m L Q' :=
 Calls.mono h fun _ _ ⟨v, m', L', h1, h2, h3, h4⟩ => ⟨v, m', L', h1, h2, h3, hq _ _ _ h4⟩
end Go.Proofs.YtekpafdhgkocaaaGreat
