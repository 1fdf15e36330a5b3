/- Part of what the laws need: plain words, the walker and its laws, the program's functions. -/
import Derived.Test.YthhmandpjlggcaaZMem
namespace Go.Proofs.Ythhmandpjlggcaa
def Ent.cat (L : List Ent) : Ent :=
  ⟨blocksOf L, fun b o => ∃ e ∈ L, b ∈ e.blocks ∧ e.foot b o, fun w => ∀ e ∈ L, e.ok w,
    fun w h b hb => by
      obtain ⟨e, he, hbe⟩ := mem_blocksOf.1 hb
      exact e.lt w (h e he) b hbe,
    fun w w' h hs e he => e.loc w w' (h e he) fun b hb => hs b (mem_blocksOf.2 ⟨e, he, hb⟩)⟩
theorem cat_blocks (L R : List Ent) : blocksOf (Ent.cat L :: R) = blocksOf (L ++ R) := by rw [blocksOf_cons, blocksOf_append]; rfl
section
variable {B : List Nat} {m0 m : Mem} {L R : List Ent}
theorem Ow.uncat (h : Ow m (Ent.cat L :: R)) : Ow m (L ++ R) :=
  ⟨by rw [← cat_blocks]; exact h.nodup, fun e he => by
    rcases List.mem_append.1 he with he | he
    · exact h.ok (Ent.cat L) List.mem_cons_self e he
    · exact h.ok e (List.mem_cons_of_mem _ he), fun e he b hb o ho => by
    rcases List.mem_append.1 he with he | he
    · exact h.apart (Ent.cat L) List.mem_cons_self b (mem_blocksOf.2 ⟨e, he, hb⟩) o ⟨e, he, hb, ho⟩
    · exact h.apart e (List.mem_cons_of_mem _ he) b hb o ho⟩
theorem Ow.cat (h : Ow m (L ++ R)) : Ow m (Ent.cat L :: R) :=
  ⟨by rw [cat_blocks]; exact h.nodup, fun e he => by
    rcases List.mem_cons.1 he with rfl | he
    · exact fun x hx => h.ok x (List.mem_append_left _ hx)
    · exact h.ok e (List.mem_append_right _ he), fun e he b hb o ho => by
    rcases List.mem_cons.1 he with rfl | he
    · obtain ⟨x, hx, hbx, hox⟩ := ho
      exact h.apart x (List.mem_append_left _ hx) b hbx o hox
    · exact h.apart e (List.mem_append_right _ he) b hb o ho⟩
theorem St.uncat (h : St B m0 m (Ent.cat L :: R)) : St B m0 m (L ++ R) := ⟨h.le, h.kept, h.news, h.ow.uncat, fun b hb => h.blk b (by rw [cat_blocks]; exact hb)⟩
theorem St.cat (h : St B m0 m (L ++ R)) : St B m0 m (Ent.cat L :: R) := ⟨h.le, h.kept, h.news, h.ow.cat, fun b hb => h.blk b (by rw [← cat_blocks]; exact hb)⟩
end
end Go.Proofs.Ythhmandpjlggcaa
