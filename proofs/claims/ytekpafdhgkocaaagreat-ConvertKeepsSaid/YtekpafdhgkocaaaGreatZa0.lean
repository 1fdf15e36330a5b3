/- Other names. -/
namespace Go.Proofs.YtekpafdhgkocaaaGreat
universe u v w
theorem aa:∀{α:Type u} {β:Type v} (a:α) (f:α->Option β),(Option.some a).bind f=f a:=@Option.bind_some
theorem ae:∀{α:Type u} {b:α} {α_1:Type v} {x:Option α_1} {f:α_1->Option α},x.bind f=Option.some b↔∃(a:α_1),x=Option.some a/\f a=Option.some b:=@Option.bind_eq_some_iff
theorem af:∀{α:Type u} {b:α} {α_1:Type v} {x:Option α_1} {f:α_1->α},Option.map f x=Option.some b↔∃(a:α_1),x=Option.some a/\f a=b:=@Option.map_eq_some_iff
theorem ah:∀{n m:Nat},n.beq m=Bool.true->n=m:=@Nat.eq_of_beq_eq_true
theorem ak:∀{α:Type u} {l bs:List α},(l++bs).length=l.length+bs.length:=@List.length_append
theorem al:∀{α:Type u} (val val_1:α),(Option.some val=Option.some val_1)=(val=val_1):=@Option.some.injEq
theorem aq:∀(a b:Bool),((a&&b)=Bool.true)=(a=Bool.true/\b=Bool.true):=@Bool.and_eq_true
theorem ar:∀{α:Type u} {val val_1:α},Option.some val=Option.some val_1->val=val_1:=@Option.some.inj
theorem au:∀{p:Prop} [Decidable p],(Decidable.decide p=Bool.true)=p:=@decide_eq_true_eq
theorem ax:∀{α:Type u} {a:α} {l:List α},a∈a::l:=@List.mem_cons_self
theorem ay:∀{n m:Nat},n.ble m=Bool.true->n<=m:=@Nat.le_of_ble_eq_true
theorem az:∀{α:Type u} (l bs cs:List α),l++bs++cs=l++(bs++cs):=@List.append_assoc
theorem aA:∀{α:Type u} {l:List α} {n:Nat} (h:n<l.length),l[n]∈l:=@List.getElem_mem
theorem aB:∀{α:Type u} {i:Nat} {l:List α} (h:i<l.length),List.take (i+1) l=List.take i l++[l[i]]:=@List.take_succ_eq_append_getElem
theorem aD:∀{α:Type u} {β:Type v} (fst:α) (snd:β) (fst_1:α) (snd_1:β),((fst,snd)=(fst_1,snd_1))=(fst=fst_1/\snd=snd_1):=@Prod.mk.injEq
theorem aE:∀{α:Type u} (y:α) {a:α} {l:List α},a∈l->a∈y::l:=@List.mem_cons_of_mem
theorem aF:∀{p:Prop} [Decidable p],Decidable.decide p=Bool.true->p:=@of_decide_eq_true
theorem aG:∀{α:Type u} {β:Type v} {γ:Type w} (x:Option α) (f:α->Option β) (g:β->Option γ),(x.bind f).bind g=x.bind fun(y:α)=>(f y).bind g:=@Option.bind_assoc
theorem aH:∀{p:Prop} [Decidable p],p->Decidable.decide p=Bool.true:=@decide_eq_true
theorem aI:(Bool.false=Bool.true)=False:=@Bool.false_eq_true
theorem aJ:∀{α:Type u} {β:Type v} {l:List α} (f:α->β),(List.map f l).length=l.length:=@List.length_map
theorem aK:∀{α:Type u} {a:α} {s t:List α},a∈s++t↔a∈s\/a∈t:=@List.mem_append
theorem aL:∀{α:Type u} (l:List α),l++[]=l:=@List.append_nil
theorem aM:∀(n:Nat),(n:Int).toNat=n:=@Int.toNat_natCast
theorem aN:∀{α:Type u} {i:Nat} {l:List α},(List.take i l).length=Min.min i l.length:=@List.length_take
theorem aO:∀{α:Type u} {β:Type v} {f:α->β} {a:α} {l:List α},List.map f (a::l)=f a::List.map f l:=@List.map_cons
theorem aP:∀{p:Prop},(¬p->False)->p:=@Classical.byContradiction
theorem aQ:∀{α:Type u} {β:Type v} (f:α->Option β),Option.none.bind f=Option.none:=@Option.bind_none
theorem aR:∀{α:Type u} {p:α->Bool} {l:List α},l.all p=Bool.true↔∀(x:α),x∈l->p x=Bool.true:=@List.all_eq_true
theorem aU:∀{α:Type u} {l₁ l₂:List α},(l₁++l₂).Perm (l₂++l₁):=@List.perm_append_comm
theorem aV:∀{α:Type u} {i:Nat} {l:List α},(List.drop i l).length=l.length-i:=@List.length_drop
theorem aW:∀{p q:Prop} {x:Decidable p} {x_1:Decidable q},Decidable.decide p=Decidable.decide q↔(p↔q):=@decide_eq_decide
theorem aX:∀{α:Type u} {R:α->α->Prop} {l:List α},List.Pairwise R l↔∀(i j:Nat) (_hi:i<l.length) (_hj:j<l.length),i<j->R l[i] l[j]:=@List.pairwise_iff_getElem
theorem aY:∀{α:Type u} {β:Type v} {f:α->β} {l₁ l₂:List α},List.map f (l₁++l₂)=List.map f l₁++List.map f l₂:=@List.map_append
theorem aZ:∀{α:Type u} {b:α} {l:List α} {a:α},a∈b::l↔a=b\/a∈l:=@List.mem_cons
theorem a7:∀{α:Type u} (l:List α),[]++l=l:=@List.nil_append
theorem ba:∀{α:Type u} {p:α->Bool} {l:List α} {x:α},x∈List.filter p l↔x∈l/\p x=Bool.true:=@List.mem_filter
theorem bc:∀(n:Nat),0+n=n:=@Nat.zero_add
theorem bf:∀(n m k:Nat),(n+m)*k=n*k+m*k:=@Nat.add_mul
theorem bg:∀{α:Type u} {β:Type v} (a:α) (f:α->β),Option.map f (Option.some a)=Option.some (f a):=@Option.map_some
theorem bh:∀{p:Prop} {x:Decidable p},Decidable.decide p=Bool.false↔¬p:=@decide_eq_false_iff_not
theorem bj:∀{α:Type u} {n:Nat} {a:α},(List.replicate n a).length=n:=@List.length_replicate
theorem bm:∀{α:Type u} {L₁ L₂:List (List α)},(L₁++L₂).flatten=L₁.flatten++L₂.flatten:=@List.flatten_append
theorem bn:∀{α:Type u} {l:List α},List.take l.length l=l:=@List.take_length
theorem bp:∀{α:Type u} {a:α},[a].length=1:=@List.length_singleton
theorem bq:∀{α:Type u} {t₁ t₂:List α} (l:List α),t₁.Perm t₂->(l++t₁).Perm (l++t₂):=@List.Perm.append_left
theorem br:∀{α:Type u} {i:Nat} {l:List α},l.length<=i->List.take i l=l:=@List.take_of_length_le
theorem bt:∀{α:Type u} {β:Type v} {f:α->β} {l:List α},Array.map f l.toArray=(List.map f l).toArray:=@List.map_toArray
theorem bu:∀{α:Type u} {a:α} {l:List α} (bs:List α),a∈l->a∈l++bs:=@List.mem_append_left
theorem bw:∀{α:Type u} (head:α) (tail:List α) (head_1:α) (tail_1:List α),(head::tail=head_1::tail_1)=(head=head_1/\tail=tail_1):=@List.cons.injEq
theorem bA:∀{α:Type u} {i:Nat} {l:List α} (h:i<l.length),List.drop i l=l[i]::List.drop (i+1) l:=@List.drop_eq_getElem_cons
theorem bC:∀{α:Type u} (p:α->Bool) (l:List α),(List.filter p l).length<=l.length:=@List.length_filter_le
theorem bD:∀{α:Type u} {a:α} {l bs:List α},a::l++bs=a::(l++bs):=@List.cons_append
theorem bF:∀{α:Type u} {a:α} {l:List α},a∈l↔∃(i:Nat),∃(h:i<l.length),l[i]=a:=@List.mem_iff_getElem
theorem bG:∀{α:Type u} {β:Type v} {f:α->β},List.map f []=[]:=@List.map_nil
theorem bH:∀{α:Type u} {p:α->Bool} {l:List α},l.any p=Bool.true↔∃(x:α),x∈l/\p x=Bool.true:=@List.any_eq_true
theorem bI:∀{α:Type u} {p q:α->Bool} {l:List α},(∀(x:α),x∈l->p x=q x)->List.filter p l=List.filter q l:=@List.filter_congr
theorem bJ:∀{α:Type u} {l:List α} {i:Nat} {a:α},(l.set i a).length=l.length:=@List.length_set
theorem bK:∀{α:Type u} {a:α} {l:List α},(a::l).length=l.length+1:=@List.length_cons
theorem bL:∀{α:Type u} {b:α} (l:List α) {bs:List α},b∈bs->b∈l++bs:=@List.mem_append_right
theorem bM:∀{α:Type u} {l:List α},l.length=0->l=[]:=@List.eq_nil_of_length_eq_zero
end Go.Proofs.YtekpafdhgkocaaaGreat
