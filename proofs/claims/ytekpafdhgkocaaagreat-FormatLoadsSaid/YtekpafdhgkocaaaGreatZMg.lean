/- Part of what the laws need: plain words, the walker and its laws, the program's functions. -/
import Derived.Test.YtekpafdhgkocaaaGreatZMem
namespace Go.Proofs.YtekpafdhgkocaaaGreat
def az.cat (L : List az) : az :=
 ⟨ak L, fun b o => ∃ e ∈ L, b ∈ e.blocks ∧ e.Db b o, fun w => ∀ e ∈ L, e.ok w,
  fun w h b hb => by
   obtain ⟨e, he, hbe⟩ := bH.1 hb
   exact e.lt w (h e he) b hbe,
  fun w w' h hs e he => e.loc w w' (h e he) fun b hb => hs b (bH.2 ⟨e, he, hb⟩)⟩
theorem nc (L R : List az) : ak (az.cat L :: R) = ak (L ++ R) := by rw [cu, bF]; rfl
section
variable {B : List Nat} {m0 m : Mem} {L R : List az}
theorem Ow.Cw (h : Ow m (az.cat L :: R)) : Ow m (L ++ R) :=
 ⟨by rw [← nc]; exact h.nodup, fun e he => by
  rcases List.mem_append.1 he with he | he
  · exact h.ok (az.cat L) List.mem_cons_self e he
  · exact h.ok e (List.mem_cons_of_mem _ he), fun e he b hb o ho => by
  rcases List.mem_append.1 he with he | he
  · exact h.apart (az.cat L) List.mem_cons_self b (bH.2 ⟨e, he, hb⟩) o ⟨e, he, hb, ho⟩
  · exact h.apart e (List.mem_cons_of_mem _ he) b hb o ho⟩
theorem Ow.cat (h : Ow m (L ++ R)) : Ow m (az.cat L :: R) :=
 ⟨by rw [nc]; exact h.nodup, fun e he => by
  rcases List.mem_cons.1 he with rfl | he
  · exact fun x hx => h.ok x (List.mem_append_left _ hx)
  · exact h.ok e (List.mem_append_right _ he), fun e he b hb o ho => by
  rcases List.mem_cons.1 he with rfl | he
  · obtain ⟨x, hx, hbx, hox⟩ := ho
    exact h.apart x (List.mem_append_left _ hx) b hbx o hox
  · exact h.apart e (List.mem_append_right _ he) b hb o ho⟩
theorem St.Cw (h : St B m0 m (az.cat L :: R)) : St B m0 m (L ++ R) := ⟨h.le, h.kept, h.news, h.ow.Cw, fun b hb => h.wJ b (by rw [nc]; exact hb)⟩
theorem St.cat (h : St B m0 m (L ++ R)) : St B m0 m (az.cat L :: R) := ⟨h.le, h.kept, h.news, h.ow.cat, fun b hb => h.wJ b (by rw [← nc]; exact hb)⟩
end
end Go.Proofs.YtekpafdhgkocaaaGreat
