/- Other names. -/
namespace Go.Proofs.YtjfkdglgecgjfaaGreat
universe u v w
theorem aa:∀{α:Type u} {b:α} {α_1:Type v} {x:Option α_1} {f:α_1->Option α},x.bind f=Option.some b↔∃(a:α_1),x=Option.some a/\f a=Option.some b:=@Option.bind_eq_some_iff
theorem ab:∀{α:Type u} {b:α} {α_1:Type v} {x:Option α_1} {f:α_1->α},Option.map f x=Option.some b↔∃(a:α_1),x=Option.some a/\f a=b:=@Option.map_eq_some_iff
theorem ae:∀{α:Type u} {β:Type v} (a:α) (f:α->Option β),(Option.some a).bind f=f a:=@Option.bind_some
theorem af:∀{α:Type u} (val val_1:α),(Option.some val=Option.some val_1)=(val=val_1):=@Option.some.injEq
theorem ah:∀{n m:Nat},n.beq m=Bool.true->n=m:=@Nat.eq_of_beq_eq_true
theorem aj:∀{n m:Nat},n.ble m=Bool.true->n<=m:=@Nat.le_of_ble_eq_true
theorem ak:∀{α:Type u} {β:Type v} (a:α) (f:α->β),Option.map f (Option.some a)=Option.some (f a):=@Option.map_some
theorem al:∀(a b:Bool),((a&&b)=Bool.true)=(a=Bool.true/\b=Bool.true):=@Bool.and_eq_true
theorem aq:∀{α:Type u} {a:α} {l:List α},a∈a::l:=@List.mem_cons_self
theorem au:∀{α:Type u} (y:α) {a:α} {l:List α},a∈l->a∈y::l:=@List.mem_cons_of_mem
theorem ax:∀{α:Type u} {val val_1:α},Option.some val=Option.some val_1->val=val_1:=@Option.some.inj
theorem ay:∀{α:Type u} {l bs:List α},(l++bs).length=l.length+bs.length:=@List.length_append
theorem az:∀{α:Type u} (l bs cs:List α),l++bs++cs=l++(bs++cs):=@List.append_assoc
theorem aA:∀{α:Type u} {β:Type v} (fst:α) (snd:β) (fst_1:α) (snd_1:β),((fst,snd)=(fst_1,snd_1))=(fst=fst_1/\snd=snd_1):=@Prod.mk.injEq
theorem aB:∀{α:Type u} {b:α} {l:List α} {a:α},a∈b::l↔a=b\/a∈l:=@List.mem_cons
theorem aD:∀{α:Type u} {β:Type v} {γ:Type w} (x:Option α) (f:α->Option β) (g:β->Option γ),(x.bind f).bind g=x.bind fun(y:α)=>(f y).bind g:=@Option.bind_assoc
theorem aE:∀{α:Type u} {p:α->Bool} {l:List α},l.all p=Bool.true↔∀(x:α),x∈l->p x=Bool.true:=@List.all_eq_true
theorem aF:∀{α:Type u} {β:Type v} {f:α->β} {a:α} {l:List α},List.map f (a::l)=f a::List.map f l:=@List.map_cons
theorem aG:∀(n:Nat),(n:Int).toNat=n:=@Int.toNat_natCast
theorem aH:(Bool.false=Bool.true)=False:=@Bool.false_eq_true
theorem aI:∀{α:Type u} {β:Type v} (f:α->Option β),Option.none.bind f=Option.none:=@Option.bind_none
theorem aJ:∀{p:Prop} [Decidable p],(Decidable.decide p=Bool.true)=p:=@decide_eq_true_eq
theorem aK:∀{α:Type u} {l₁ l₂:List α},(l₁++l₂).Perm (l₂++l₁):=@List.perm_append_comm
theorem aL:∀(n:Nat),0+n=n:=@Nat.zero_add
theorem aM:∀{α:Type u} {i:Nat} {l:List α},(List.take i l).length=Min.min i l.length:=@List.length_take
theorem aN:∀(n m k:Nat),(n+m)*k=n*k+m*k:=@Nat.add_mul
theorem aO:∀{α:Type u} (l:List α),[]++l=l:=@List.nil_append
theorem aP:∀{α:Type u} {n:Nat} {a:α},(List.replicate n a).length=n:=@List.length_replicate
theorem aQ:∀{α:Type u} {β:Type v} {l:List α} (f:α->β),(List.map f l).length=l.length:=@List.length_map
theorem aR:∀{α:Type u} {l:List α} {n:Nat} (h:n<l.length),l[n]∈l:=@List.getElem_mem
theorem aU:∀{α:Type u} {a:α} {l:List α} (bs:List α),a∈l->a∈l++bs:=@List.mem_append_left
theorem aV:∀{α:Type u} {a:α} {l bs:List α},a::l++bs=a::(l++bs):=@List.cons_append
theorem aW:∀{α:Type u} (l:List α),l++[]=l:=@List.append_nil
theorem aX:∀{α:Type u} {β:Type v} {f:α->β} {l:List α},Array.map f l.toArray=(List.map f l).toArray:=@List.map_toArray
theorem aY:∀{α:Type u} {t₁ t₂:List α} (l:List α),t₁.Perm t₂->(l++t₁).Perm (l++t₂):=@List.Perm.append_left
theorem aZ:∀{p:Prop} [Decidable p],Decidable.decide p=Bool.true->p:=@of_decide_eq_true
theorem ba:∀{α:Type u} {b:α} (l:List α) {bs:List α},b∈bs->b∈l++bs:=@List.mem_append_right
theorem bc:∀{α:Type u} (head:α) (tail:List α) (head_1:α) (tail_1:List α),(head::tail=head_1::tail_1)=(head=head_1/\tail=tail_1):=@List.cons.injEq
theorem bg:∀{p:Prop} [Decidable p],p->Decidable.decide p=Bool.true:=@decide_eq_true
theorem bh:∀{α:Type u} {i:Nat} {l:List α},(List.drop i l).length=l.length-i:=@List.length_drop
theorem bj:∀{α:Type u} {a:α} {s t:List α},a∈s++t↔a∈s\/a∈t:=@List.mem_append
theorem bm:∀{p:Prop},(¬p->False)->p:=@Classical.byContradiction
theorem bn:∀{α:Type u} {L₁ L₂:List (List α)},(L₁++L₂).flatten=L₁.flatten++L₂.flatten:=@List.flatten_append
theorem bp:∀{α:Type u} {β:Type v} {f:α->β},List.map f []=[]:=@List.map_nil
theorem bq:∀{α:Type u} {l:List α},l.length=0->l=[]:=@List.eq_nil_of_length_eq_zero
theorem bu:∀{α:Type u} {p:α->Bool} {l:List α} {x:α},x∈List.filter p l↔x∈l/\p x=Bool.true:=@List.mem_filter
theorem bw:∀{α:Type u} {a:α} {l:List α},(a::l).length=l.length+1:=@List.length_cons
theorem bA:∀{α:Type u} {i:Nat} {l:List α},l.length<=i->List.take i l=l:=@List.take_of_length_le
theorem bB:∀{α:Type u} {β:Type v} {f:α->β} {l₁ l₂:List α},List.map f (l₁++l₂)=List.map f l₁++List.map f l₂:=@List.map_append
theorem bC:∀{α:Type u} {p:α->Bool} {l:List α},l.any p=Bool.true↔∃(x:α),x∈l/\p x=Bool.true:=@List.any_eq_true
theorem bD:∀{p:Prop} {x:Decidable p},Decidable.decide p=Bool.false↔¬p:=@decide_eq_false_iff_not
theorem bF:∀{p q:Prop} {x:Decidable p} {x_1:Decidable q},Decidable.decide p=Decidable.decide q↔(p↔q):=@decide_eq_decide
end Go.Proofs.YtjfkdglgecgjfaaGreat
