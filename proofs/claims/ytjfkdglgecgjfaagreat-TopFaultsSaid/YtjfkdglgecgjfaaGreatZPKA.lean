/- Part of the proof. -/
import Derived.Test.YtjfkdglgecgjfaaGreatZEG
import Derived.KernelRfl
namespace Go.Proofs.YtjfkdglgecgjfaaGreat
section
open IntKind(i64)
open G
namespace G
theorem KL(a:List UInt8)(h:a.length<=140737488355328):dq a=some a:=by
 unfold dq
 cases a with
 |nil=>
  show agree _ ((app 1 ([]:List UInt8) []).bind fun y=>some y)=_
  rw[nS (by simp)];exact KU _
 |cons x l=>
  show((app 1 ([]:List UInt8) (x::l)).bind fun y=>some y)=_
  rw[nS (by simp at h ⊢; omega)];rfl
end G
namespace RS
def p(s:RS):eO:=⟨s.bs,s.at_,⟨s.code,s.pos⟩⟩
def r(s:RS):bL:=⟨s.p⟩
def Fit(s:RS):Prop:=s.at_<=s.bs.length/\s.bs.length<=1099511627776/\(s.code=0->s.pos=0)
theorem Fit.fail{s:RS}(h:s.Fit)(c p:Int):(s.fail c p).Fit:=by
 unfold Fit;rw[(jH s c p).1,(jH s c p).2];refine⟨h.1,h.2.1,?_⟩;unfold RS.fail;split
 . rename_i k;exact fun k'=>absurd k' k.2
 . exact h.2.2
theorem Fit.take{s:RS}(h:s.Fit)(n:Int):(s.take n).2.Fit:=by
 refine⟨lL s h.1 n,by rw[B1];exact h.2.1,?_⟩;unfold RS.take;split
 . exact h.2.2
 . split
   . exact(h.fail _ _).2.2
   . split
     . exact(h.fail _ _).2.2
     . exact h.2.2
theorem Fit.uint{s:RS}(h:s.Fit)(n:Int):(s.uint n).2.Fit:=by rw[yw];exact h.take _
theorem Fit.bytes{s:RS}(h:s.Fit)(n:Int):(s.bytes n).2.Fit:=by rw[uu];exact h.take _
theorem Fit.length{s:RS}(h:s.Fit):s.length.2.Fit:=by
 unfold RS.length;split
 . exact(h.uint 8).fail _ _
 . exact h.uint 8
theorem Fit.expect{s:RS}(h:s.Fit)(b:List UInt8)(c:Int):(s.expect b c).2.Fit:=by
 unfold RS.expect;split
 . exact h
 . split
   . exact h.fail _ _
   . exact h.take _
theorem CU(s:RS)(c n:Int):dm c n s.r=some (s.fail c n).r:=by
 unfold dm RS.fail r p;by_cases h:s.code=0<;>by_cases h2:c=0<;>simp[h,h2]
theorem ML{s:RS}(h:s.Fit){n:Int}(hn:EC n):eI n s.r=some ((s.take n).1.getD [],(s.take n).1.isSome,(s.take n).2.r):=by
 unfold EC at hn;obtain⟨h1,h2,h3⟩:=h;unfold eI;by_cases hc:s.code=0
 . have hc':¬ s.r.position.fault.code≠0:=by simp[r,p,hc]
   rw[if_neg hc'];by_cases hneg:n<0
   . rw[if_pos hneg,CU,Kv s hc n hneg];rfl
   . rw[if_neg hneg];have e:i64.wrap ((s.r.position.b.length:Int)-s.r.position.at_)=(s.bs.length:Int)-s.at_:=by
      simp only[r,p];rw[jQ (by omega) (by omega)]
     rw[e];by_cases hs:n>(s.bs.length:Int)-s.at_
     . rw[if_pos hs,Ej s hc n (by omega) (by omega)];have:(s.r.position.b.length:Int)=s.bs.length:=rfl;rw[this,CU];rfl
     . rw[if_neg hs];obtain⟨k,rfl⟩:∃k:Nat,n=(k:Int):=⟨n.toNat,by omega⟩;rw[uY s hc k (by omega)];have e2:i64.wrap (s.r.position.at_+(k:Int))=((s.at_+k:Nat):Int):=by simp only[r,p];rw[jQ (by omega) (by omega)];omega
       have e3:i64.wrap (((s.at_+k:Nat):Int)-(k:Int))=(s.at_:Int):=by rw[jQ (by omega) (by omega)];omega
       rw[e2,e3,QN (by simp only[r,p];omega)];simp only[r,p,ae,aG,Option.getD_some,Option.isSome_some,List.drop_take,Nat.add_sub_cancel_left]
 . have hc':s.r.position.fault.code≠0:=hc;rw[if_pos hc',Ku s hc];rfl
theorem EZ{s:RS}(n:Int):((s.take n).1.getD []).length<=s.bs.length:=by
 cases h:(s.take n).1 with
 |none=>simp
 |some l=>exact HH s h
theorem aci(x:Nat)(c:UInt8)(h:x<72057594037927936):Yl .u64 (Bt .u64 (x:Int) 8) (c.toNat:Int)=((256*x+c.toNat:Nat):Int):=by
 have hc:=c.toNat_lt;have e1:Bt .u64 (x:Int) 8=((x*256:Nat):Int):=by
  unfold Bt;have:(2:Int) ^ (min (8:Int).toNat IntKind.u64.bits)=256:=by decide
  rw[this,Xz (by omega) (by omega)];omega
 rw[e1];unfold Yl;have e2:∀n:Nat,BitVec.ofInt 64 (n:Int)=BitVec.ofNat 64 n:=fun n=>by simp
 have e3:x*256 ||| c.toNat=256*x+c.toNat:=by
  have:=Nat.shiftLeft_add_eq_or_of_lt (i:=8) (b:=c.toNat) (by omega) x;rw[Nat.shiftLeft_eq,show(2:Nat) ^ 8=256 from rfl]at this;omega
 have e4:(BitVec.ofInt 64 ((x*256:Nat):Int) ||| BitVec.ofInt 64 (c.toNat:Int)).toNat=256*x+c.toNat:=by
  rw[e2,e2,BitVec.toNat_or,BitVec.toNat_ofNat,BitVec.toNat_ofNat,Nat.mod_eq_of_lt (by omega),Nat.mod_eq_of_lt (by omega),e3]
 show IntKind.u64.wrap (((BitVec.ofInt 64 ((x*256:Nat):Int) ||| BitVec.ofInt 64 (c.toNat:Int)).toNat:Nat):Int)=_;rw[e4];exact Xz (by omega) (by omega)
theorem HI{s:RS}(h:s.Fit){n:Int}(hn:EC n):eG n s.r=some (((s.uint n).1:Int),(s.uint n).2.r):=by
 unfold eG;have e1:((if n<1 then some true else some (decide (n>8))):Option Bool)=some (decide (n<1\/8<n)):=by
  by_cases h1:n<1<;>simp[h1]
 have e2:(((if n<1 then some true else some (decide (n>8))):Option Bool).bind fun v1=>(if v1=true then some (-1)else some n))=some (size n):=by
  rw[e1];unfold size;by_cases h1:n<1\/8<n<;>simp[h1]
 rw[<- aD,e2];simp only[ae];have hsz:EC (size n):=by unfold EC size at *; split<;>omega
 rw[ML h hsz];simp only[ae]
 cases ht:(s.take (size n)).1 with
 |none=>rw[Ak s ht];simp[r]
 |some l=>
  rw[qR s ht]
  simp only[Option.isSome_some,Option.getD_some,Bool.true_eq_false,if_false,uc,ae]
  have hl8:=HG s ht
  refine jq l.length (fun k=>((num (l.take k):Int),(k:Int),(num (l.take k):Int))) _ (fun k hk=>?_) ?_ (by simp[num])
  . unfold jX
    have h1:((k:Int))<(l.length:Int):=by omega
    simp only[h1,if_true,fJ hk,ae,qc]
    have hb:=JS l k hk hl8
    rw[aci _ _ hb,jf hk (by omega),ES l k hk,N3 _ _ _ hk]
  . unfold jX
    simp[bA,r]
theorem oz{s:RS}(h:s.Fit):cG s.r=some (s.length.1,s.length.2.r):=by
 unfold cG;rw[HI h (by unfold EC;omega)];simp only[ae];unfold RS.length;by_cases hc:4611686018427387903<(s.uint 8).1
 . rw[if_pos (by omega),if_pos hc];rw[CU];rfl
 . rw[if_neg (by omega),if_neg hc,jQ (by omega) (by omega)]
theorem Nw{s:RS}(h:s.Fit){n:Int}(hn:EC n):gz n s.r=some ((s.bytes n).1,(s.bytes n).2.r):=by
 unfold gz;rw[ML h hn];have hl:=EZ (s:=s) n;simp only[ae];have hb:=h.2.1;rw[KL _ (by omega)];simp only[ae]
 cases ht:(s.take n).1 with
 |none=>rw[K6 s ht];rfl
 |some l=>rw[Cs s ht];rfl
theorem hasPrefix(l b:List UInt8)(h:l.length<=b.length):G.bytes_HasPrefix b l=some (decide (b.take l.length=l)):=by
 unfold G.bytes_HasPrefix G.bytes_Equal;rw[if_pos (by omega),yi (by omega)];simp
theorem Sj{s:RS}(h:s.Fit)(b:List UInt8)(c:Int)(hb:b.length<=1099511627776):iC b c s.r=some ((s.expect b c).1,(s.expect b c).2.r):=by
 have h1:=h.1;have h2:=h.2.1;unfold iC RS.expect;by_cases hc:s.code=0
 . rw[if_neg (show ¬ s.r.position.fault.code≠0 by simp[r,p,hc]),if_neg (by simp[hc])];rw[show s.r.position.b=s.bs from rfl,show s.r.position.at_=(s.at_:Int) from rfl,MF (by omega)];simp only[ae,aG];have e:ib (b.length:Int) ((s.bs.drop s.at_).length:Int)=((min b.length (s.bs.drop s.at_).length:Nat):Int):=by unfold ib;split<;>omega
   rw[e,yi (by omega)];simp only[ae,aG];have e2:(s.bs.drop s.at_).take (min b.length (s.bs.drop s.at_).length)=(s.bs.drop s.at_).take b.length:=by
    rw[List.take_eq_take_iff];omega
   rw[e2,hasPrefix _ _ (by simp;omega)];simp only[ae];by_cases hp:(s.bs.drop s.at_).take b.length=b.take ((s.bs.drop s.at_).take b.length).length
   . rw[if_neg (by rw[bg hp.symm];simp),if_neg (by simpa using hp),ML h (by unfold EC;omega)];rfl
   . rw[if_pos (decide_eq_false (fun k=>hp k.symm)),if_pos hp,CU];rfl
 . rw[if_pos (show s.r.position.fault.code≠0 from hc),if_pos hc]
theorem LD(s:RS)(c n:Int):du c n s.r=some (s.fail c n).r:=by
 unfold du;rw[CU];rfl
end RS
namespace RS
def cmd(s:RS):bH×RS:=
 if(s.uint 1).1=1 then
  (⟨1,(s.uint 1).2.length.1,(s.uint 1).2.length.2.length.1,(s.uint 1).2.length.2.length.2.length.1,[]⟩,(s.uint 1).2.length.2.length.2.length.2)
 else if(s.uint 1).1=2 then
  (⟨2,(s.uint 1).2.length.1,0,0,((s.uint 1).2.length.2.length.2.bytes (s.uint 1).2.length.2.length.1).1⟩,((s.uint 1).2.length.2.length.2.bytes (s.uint 1).2.length.2.length.1).2)
 else(⟨0,0,0,0,[]⟩,(s.uint 1).2.fail 11 s.at_)
def qq:Nat->RS->List bH->RS×List bH
 |0,s,l=>(s,l)
 |n+1,s,l=>if s.code=0 then qq n s.cmd.2 (l++[s.cmd.1])else(s,l)
theorem Fit.cmd{s:RS}(h:s.Fit):s.cmd.2.Fit:=by
 unfold RS.cmd;split
 . exact(h.uint 1).length.length.length
 . split
   . exact(h.uint 1).length.length.bytes _
   . exact(h.uint 1).fail _ _
theorem Yp(s:RS):s.cmd.2.bs=s.bs:=by
 unfold cmd;split
 . rw[l9,l9,l9,pK]
 . split
   . rw[Cr,l9,l9,pK]
   . rw[(jH _ _ _).1,pK]
theorem UE(s:RS):(s.uint 1).1<256:=by
 cases h:(s.take (size 1)).1 with
 |none=>rw[Ak s h];exact(by decide:(0:Nat)<256)
 |some l=>
  rw[qR s h]
  have:=L9 l
  have hl:l.length<=1:=by
   unfold RS.take at h;split at h
   . cases h
   . split at h
     . cases h
     . split at h
       . cases h
       . cases h;simp[size];omega
  have:256 ^ l.length<=256 ^ 1:=Nat.pow_le_pow_right (by omega) hl
  omega
theorem LU(s:RS):EC s.length.1:=by
 unfold RS.length;split
 . unfold EC;dsimp only;omega
 . unfold EC;dsimp only;omega
theorem aaw{s:RS}(h:s.Fit):fp s.r=some (s.cmd.1,s.cmd.2.r):=by
 unfold fp fN;have hu:=UE s;simp only[ae];rw[HI h (by unfold EC;omega)];simp only[ae];rw[jQ (by omega) (by omega)];have f1:=h.uint 1;unfold RS.cmd;by_cases h1:(s.uint 1).1=1
 . rw[if_pos (by unfold vx;exact bg (by omega)),if_pos h1];unfold iq;simp only[oz f1,oz f1.length,oz f1.length.length,ae]
 . rw[if_neg (by unfold vx;rw[aJ];omega),if_neg h1];by_cases h2:(s.uint 1).1=2
   . rw[if_pos (by unfold vx;exact bg (by omega)),if_pos h2];unfold ir;simp only[oz f1,oz f1.length,Nw f1.length.length (LU _),ae]
   . rw[if_neg (by unfold vx;rw[aJ];omega),if_neg h2];simp only[LD,ae];rfl
theorem qC{s:RS}{c p:Int}(hc:c≠0):(s.fail c p).code≠0:=by
 unfold RS.fail;split
 . exact hc
 . rename_i h;exact fun k=>h ⟨k,hc⟩
theorem OX(s:RS)(n:Int):s.at_<=(s.take n).2.at_:=by
 unfold RS.take;split
 . exact Nat.le_refl _
 . split
   . rw[(jH _ _ _).2];exact Nat.le_refl _
   . split
     . rw[(jH _ _ _).2];exact Nat.le_refl _
     . dsimp only;omega
theorem O1(s:RS)(n:Int):s.at_<=(s.uint n).2.at_:=by rw[yw];exact OX s _
theorem qI(s:RS):s.at_<=s.length.2.at_:=by
 unfold RS.length;split
 . rw[(jH _ _ _).2];exact O1 s 8
 . exact O1 s 8
theorem RL(s:RS)(n:Int):s.at_<=(s.bytes n).2.at_:=by rw[uu];exact OX s _
theorem F4{s:RS}{n:Int}(h:(s.take n).2.code=0):s.code=0/\0<=n/\(s.at_:Int)+n<=s.bs.length/\s.take n=(some ((s.bs.drop s.at_).take n.toNat),{s with at_:=s.at_+n.toNat}):=by
 by_cases hc:s.code=0
 . by_cases hn:n<0
   . rw[Kv s hc n hn]at h;exact absurd h (qC (by decide))
   . by_cases hs:(s.bs.length:Int)-s.at_<n
     . rw[Ej s hc n (by omega) hs]at h;exact absurd h (qC (by decide))
     . refine⟨hc,by omega,by omega,?_⟩;unfold RS.take;rw[if_neg (by simp[hc]),if_neg hn,if_neg hs]
 . rw[Ku s hc]at h;exact absurd h hc
theorem F5{s:RS}{n:Int}(h1:1<=n)(h8:n<=8)(h:(s.uint n).2.code=0):s.code=0/\(s.at_:Int)+n<=s.bs.length/\s.uint n=(num ((s.bs.drop s.at_).take n.toNat),{s with at_:=s.at_+n.toNat}):=by
 have hz:size n=n:=by unfold size;rw[if_neg (by omega)]
 rw[yw,hz]at h;obtain⟨a,b,c,d⟩:=F4 h;refine⟨a,c,?_⟩;rw[qR s (l:=(s.bs.drop s.at_).take n.toNat) (by rw[hz,d]),hz,d]
theorem mF{s:RS}(h:s.length.2.code=0):s.code=0/\s.at_+8<=s.bs.length/\num ((s.bs.drop s.at_).take 8)<=4611686018427387903/\s.length=((num ((s.bs.drop s.at_).take 8):Int),{s with at_:=s.at_+8}):=by
 unfold RS.length at h ⊢;split at h
 . exact absurd h (qC (by decide))
 . rename_i hc;obtain⟨a,b,c⟩:=F5 (by decide) (by decide) h;rw[if_neg hc,c];rw[c]at hc;exact⟨a,by omega,Nat.not_lt.mp hc,rfl⟩
theorem K5{s:RS}{n:Int}(h:(s.bytes n).2.code=0):s.code=0/\0<=n/\(s.at_:Int)+n<=s.bs.length/\s.bytes n=((s.bs.drop s.at_).take n.toNat,{s with at_:=s.at_+n.toNat}):=by
 rw[uu]at h;obtain⟨a,b,c,d⟩:=F4 h;exact⟨a,b,c,by unfold RS.bytes;rw[d]⟩
theorem Yo{s:RS}(h:s.cmd.2.code=0):s.at_+1<=s.cmd.2.at_:=by
 have key:(s.uint 1).2.code=0->s.at_+1<=(s.uint 1).2.at_:=fun k=>by
  obtain⟨_,_,e⟩:=F5 (by decide) (by decide) k;rw[e];exact Nat.le_refl _
 unfold RS.cmd at h ⊢;split at h
 . rename_i h1;rw[if_pos h1];have:=key (mF (mF (mF h).1).1).1;have a:=qI (s.uint 1).2;have b:=qI (s.uint 1).2.length.2;have c:=qI (s.uint 1).2.length.2.length.2;dsimp only;omega
 . split at h
   . rename_i h1 h2;rw[if_neg h1,if_pos h2];have:=key (mF (mF (K5 h).1).1).1;have a:=qI (s.uint 1).2;have b:=qI (s.uint 1).2.length.2;have c:=RL (s.uint 1).2.length.2.length.2 (s.uint 1).2.length.2.length.1;dsimp only;omega
   . exact absurd h (qC (by decide))
end RS
def X9:bV:=⟨0,0,fun _=>0,fun _=>0,[]⟩
def FG:List UInt8:=[71,82,70,84]
def hash(l:List UInt8):Nat->UInt8:=XK 32 (fun _=>0) l
theorem JG:([u8 71,u8 82,u8 70,u8 84]:List UInt8)=FG:=by kernel_rfl
namespace iV
def s0(b:List UInt8):RS:=⟨b,0,0,0⟩
def s1(b:List UInt8):RS:=((s0 b).expect FG 9).2
def s2(b:List UInt8):RS:=if((s1 b).uint 1).1≠1 then((s1 b).uint 1).2.fail 10 4 else((s1 b).uint 1).2
def s3(b:List UInt8):RS:=(s2 b).length.2
def s4(b:List UInt8):RS:=(s3 b).length.2
def s5(b:List UInt8):RS:=((s4 b).bytes 32).2
def s6(b:List UInt8):RS:=((s5 b).bytes 32).2
def s7(b:List UInt8):RS:=((s6 b).uint 4).2
def s8(b:List UInt8):RS×List bH:=RS.qq ((s6 b).uint 4).1 (s7 b) []
def s9(b:List UInt8):RS:=if(s8 b).1.at_<b.length then(s8 b).1.fail 12 (s8 b).1.at_ else(s8 b).1
def d(b:List UInt8):bV:=⟨(s2 b).length.1,(s3 b).length.1,hash ((s4 b).bytes 32).1,hash ((s5 b).bytes 32).1,(s8 b).2⟩
end iV
def dec(b:List UInt8):bV×Int×Int:=if(iV.s9 b).code≠0 then(X9,(iV.s9 b).code,(iV.s9 b).pos)else(iV.d b,0,0)
namespace RS
theorem Fit.qq:∀{n:Nat} {s:RS} {l:List bH},s.Fit->(RS.qq n s l).1.Fit
 |0,_,_,h=>h
 |n+1,s,l,h=>by
  unfold RS.qq;split
  . exact h.cmd.qq
  . exact h
theorem Ny:∀(n:Nat) (s:RS) (l:List bH),(RS.qq n s l).1.bs=s.bs
 |0,_,_=>rfl
 |n+1,s,l=>by
  unfold RS.qq;split
  . rw[Ny n,Yp]
  . rfl
theorem UF(s:RS):(s.uint 4).1<4294967296:=by
 cases h:(s.take (size 4)).1 with
 |none=>rw[Ak s h];exact(by decide:(0:Nat)<4294967296)
 |some l=>
  rw[qR s h]
  have:=L9 l
  have hl:l.length<=4:=by
   unfold RS.take at h;split at h
   . cases h
   . split at h
     . cases h
     . split at h
       . cases h
       . cases h;simp[size];omega
  have:256 ^ l.length<=256 ^ 4:=Nat.pow_le_pow_right (by omega) hl
  omega
theorem Zx{s:RS}(h:s.Fit):gj s.r=some (decide (s.code=0)):=by
 unfold gj jk;have:=h.2.2;by_cases hc:s.code=0
 . simp[r,p,hc,this hc]
 . simp[r,p,hc]
theorem RR(c1 c2:Int)(c3 c4:Nat->UInt8)(c5:List bH)(o w:Int)(h1' h2':Nat->UInt8):∀(n:Nat) (s:RS) (l:List bH),s.Fit->n<4294967296->(s.code=0->l.length<=s.at_)->Iter gW ((n:Int),c1,c2,c3,c4,c5,s.r,o,w,h1',h2',l)=some (c1,c2,c3,c4,c5,(qq n s l).1.r,o,w,h1',h2',(qq n s l).2)
 |0,s,l,h,_,_=>by
  apply wP;unfold gW;rw[if_neg (by dsimp only;omega)];rfl
 |n+1,s,l,h,hn,hl=>by
  by_cases hc:s.code=0
  . have hl':=hl hc;have h1:=h.1;have h2:=h.2.1;have:=RR c1 c2 c3 c4 c5 o w h1' h2' n s.cmd.2 (l++[s.cmd.1]) h.cmd (by omega) (fun k=>by have:=Yo k;simp;omega);unfold RS.qq;rw[if_pos hc,<- this];apply Ca;unfold gW;dsimp only;rw[if_pos (by omega),Zx h];simp only[ae,hc,decide_true,if_true];rw[aaw h];simp only[ae];rw[nS (by simp;omega)];simp only[ae];rw[Xz (by omega) (by omega)];have:(((n+1:Nat):Int)-1)=(n:Int):=by omega
    rw[this]
  . unfold RS.qq;rw[if_neg hc];apply wP;unfold gW;dsimp only;rw[if_pos (by omega),Zx h];simp[hc]
end RS
open RS
theorem TU{b:List UInt8}(h:b.length<=1099511627776):(iV.s0 b).Fit:=⟨Nat.zero_le _,h,fun _=>rfl⟩
namespace iV
variable {b:List UInt8}
theorem f1(h:b.length<=1099511627776):(s1 b).Fit:=(TU h).expect _ _
theorem f2(h:b.length<=1099511627776):(s2 b).Fit:=by
 unfold s2;split
 . exact((f1 h).uint 1).fail _ _
 . exact(f1 h).uint 1
theorem f3(h:b.length<=1099511627776):(s3 b).Fit:=(f2 h).length
theorem f4(h:b.length<=1099511627776):(s4 b).Fit:=(f3 h).length
theorem f5(h:b.length<=1099511627776):(s5 b).Fit:=(f4 h).bytes 32
theorem f6(h:b.length<=1099511627776):(s6 b).Fit:=(f5 h).bytes 32
theorem f7(h:b.length<=1099511627776):(s7 b).Fit:=(f6 h).uint 4
theorem f8(h:b.length<=1099511627776):(s8 b).1.Fit:=(f7 h).qq
theorem f9(h:b.length<=1099511627776):(s9 b).Fit:=by
 unfold s9;split
 . exact(f8 h).fail _ _
 . exact f8 h
theorem b2:(s2 b).bs=b:=by
 unfold s2;split
 . rw[(jH _ _ _).1,pK];exact Fh _ _ _
 . rw[pK];exact Fh _ _ _
theorem b7:(s7 b).bs=b:=by
 unfold s7 s6 s5 s4 s3;rw[pK,Cr,Cr,l9,l9,b2]
theorem b8:(s8 b).1.bs=b:=by unfold s8;rw[Ny,b7]
theorem a1:((s0 b).expect [u8 71,u8 82,u8 70,u8 84] 9).2=s1 b:=by rw[JG];rfl
theorem a3:(s2 b).length.2=s3 b:=rfl
theorem a4:(s3 b).length.2=s4 b:=rfl
theorem a5:((s4 b).bytes 32).2=s5 b:=rfl
theorem a6:((s5 b).bytes 32).2=s6 b:=rfl
theorem a7:((s6 b).uint 4).2=s7 b:=rfl
theorem a8:RS.qq ((s6 b).uint 4).1 (s7 b) []=s8 b:=rfl
theorem ar:(⟨⟨b,0,⟨0,0⟩⟩⟩:bL)=(s0 b).r:=rfl
theorem ad:d b=(⟨(s2 b).length.1,(s3 b).length.1,hash ((s4 b).bytes 32).1,hash ((s5 b).bytes 32).1,(s8 b).2⟩:bV):=rfl
theorem a2:s2 b=if((s1 b).uint 1).1≠1 then((s1 b).uint 1).2.fail 10 4 else((s1 b).uint 1).2:=rfl
theorem a9:s9 b=if(s8 b).1.at_<b.length then(s8 b).1.fail 12 (s8 b).1.at_ else(s8 b).1:=rfl
attribute [irreducible] s1 s2 s3 s4 s5 s6 s7 s8 s9
end iV
theorem R5(l:List UInt8):XJ (fun _=>0) (0:Int).toNat (ib (l.length:Int) ((32:Int)-(0:Int))).toNat l=hash l:=by
 funext i;unfold XJ hash XK;have e:(ib (l.length:Int) ((32:Int)-(0:Int))).toNat=min 32 l.length:=by unfold ib;split<;>omega
 rw[e];by_cases h:i<32/\i<l.length
 . rw[if_pos h,if_pos ⟨Nat.zero_le _,by show i<0+_;omega⟩];rfl
 . rw[if_neg h,if_neg fun k=>h (by have:i<0+min 32 l.length:=k.2;omega)]
theorem SG{s:RS}(h:s.Fit):fj s.r=some (hash (s.bytes 32).1,(s.bytes 32).2.r):=by
 unfold fj;rw[Gr (by omega),Nw h (by unfold EC;omega)];simp only[ae];rw[R5]
theorem Ra{b:List UInt8}(h:b.length<=1099511627776):mn b=some ((dec b).1,⟨(dec b).2.1,(dec b).2.2⟩):=by
 unfold mn Em;rw[KL _ (by omega)];simp only[ae];rw[iV.ar,Sj (TU h) _ _ (by decide)];simp only[ae];rw[iV.a1,HI (iV.f1 h) (by unfold EC;omega)];simp only[ae];have e2:((if(((iV.s1 b).uint 1).1:Int)≠1 then(du 10 4 ((iV.s1 b).uint 1).2.r).bind fun y16=>some y16 else some ((iV.s1 b).uint 1).2.r):Option bL)=some (iV.s2 b).r:=by
  rw[iV.a2];rw[LD];by_cases hv:((iV.s1 b).uint 1).1=1
  . rw[if_neg (by omega),if_neg (by omega)]
  . rw[if_pos (by omega),if_pos (by omega)];rfl
 rw[e2];simp only[ae];show(cG (iV.s2 b).r).bind _=_;rw[oz (iV.f2 h)];simp only[ae];rw[iV.a3,oz (iV.f3 h)];simp only[ae];rw[iV.a4,SG (iV.f4 h)];simp only[ae];rw[iV.a5,SG (iV.f5 h)];simp only[ae];rw[iV.a6,HI (iV.f6 h) (by unfold EC;omega)];simp only[ae];rw[iV.a7,RR _ _ _ _ _ _ _ _ _ _ _ _ (iV.f7 h) (UF _) (fun _=>Nat.zero_le _)];simp only[ae];rw[iV.a8];have g8:=(iV.f8 h).1;have g8':=(iV.f8 h).2.1;have e9:((hZ (iV.s8 b).1.r).bind fun y9=>(if y9>0 then(fN (iV.s8 b).1.r).bind fun y12=>(du 12 y12 (iV.s8 b).1.r).bind fun y13=>some y13 else some (iV.s8 b).1.r:Option bL))=some (iV.s9 b).r:=by
  unfold hZ fN;rw[iV.a9];simp only[ae,LD,show(iV.s8 b).1.r.position.b=(iV.s8 b).1.bs from rfl,show(iV.s8 b).1.r.position.at_=((iV.s8 b).1.at_:Int) from rfl];rw[jQ (by omega) (by omega)];rw[iV.b8]at g8 ⊢;by_cases hx:(iV.s8 b).1.at_<b.length
  . rw[if_pos (by omega),if_pos hx]
  . rw[if_neg (by omega),if_neg hx]
 show(hZ (iV.s8 b).1.r).bind (fun y9=>Option.bind (if y9>0 then(fN (iV.s8 b).1.r).bind fun y12=>(du 12 y12 (iV.s8 b).1.r).bind fun y13=>some y13 else some (iV.s8 b).1.r:Option bL) _)=_;rw[<- aD,e9];simp only[ae];rw[Zx (iV.f9 h)];simp only[ae];unfold dec;by_cases hc:(iV.s9 b).code=0
 . rw[if_neg (by simp[hc]),if_neg (by simp[hc])];rfl
 . rw[if_pos (by simp[hc]),if_pos hc];rfl
end
section
open IntKind(i64)
open G
open RS
theorem P7(v k:Nat)(h1:1<=k)(hk:k<=8)(hv:v<256 ^ k):kq ⟨(v:Int),(k:Int)⟩=some true:=by
 unfold kq;dsimp only;rw[if_pos (by omega),if_pos (by omega),jQ (x:=8*(k:Int)) (by omega) (by omega),jQ (by omega) (by omega),Gr (by omega)];simp only[ae];have e:fR .u64 (fR .u64 (v:Int) (8*(k:Int)-1)) 1=0:=by
  unfold fR;have e1:min (8*(k:Int)-1).toNat IntKind.u64.bits=8*k-1:=by show min _ 64=_;omega
  rw[e1,show min (1:Int).toNat IntKind.u64.bits=1 from rfl];have e2:((2:Int) ^ (8*k-1))=((2 ^ (8*k-1):Nat):Int):=by rw[Int.natCast_pow];rfl
  have e0:∀m:Nat,0<=(2:Int) ^ m:=fun m=>by rw[show(2:Int)=((2:Nat):Int) from rfl,<- Int.natCast_pow];exact Int.natCast_nonneg _
  rw[Int.fdiv_eq_ediv_of_nonneg _ (e0 _),Int.fdiv_eq_ediv_of_nonneg _ (e0 _),e2,<- Int.natCast_ediv];have e3:(2:Nat) ^ (8*k-1)*2=256 ^ k:=by
   rw[<- Nat.pow_succ,show(8*k-1).succ=8*k by omega,Nat.pow_mul]
  have e4:v/2 ^ (8*k-1)<2:=by
   rw[Nat.div_lt_iff_lt_mul (Nat.pow_pos (by decide)),Nat.mul_comm,e3];exact hv
  generalize v/2 ^ (8*k-1)=y at*
  show(y:Int)/2=0;omega
 rw[e];rfl
theorem O4(v:Nat)(s1:(List UInt8)×Int)(sz:Int):∀(k:Nat) (b:List UInt8),k<=8->b.length+k<=140737488355328->Iter (lM s1 ⟨(v:Int),sz⟩) (b,(k:Int)-1)=some (.inl (b++be k v,i64.wrap (s1.2+1)))
 |0,b,_,_=>by
  apply wP;unfold lM;simp[be]
 |k+1,b,hk,hb=>by
  have e:((k+1:Nat):Int)-1=(k:Int):=by omega
  rw[e];have ih:=O4 v s1 sz k (b++[UInt8.ofNat (v/256 ^ k)]) (by omega) (by simp;omega);rw[be,List.append_cons,<- ih];apply Ca;unfold lM;dsimp only;rw[if_pos (by omega),jQ (by omega) (by omega),Gr (by omega),jQ (by omega) (by omega)];simp only[ae];rw[byteOf v k (by omega),nS (by simp;omega)];rfl
def EN(l:List (Nat×Nat)):List cL:=l.map fun x=>⟨(x.1:Int),(x.2:Int)⟩
def fe(l:List (Nat×Nat)):List UInt8:=l.flatMap fun x=>be x.2 x.1
theorem O3(l:List (Nat×Nat))(b:List UInt8)(hl:∀x∈l,1<=x.2/\x.2<=8/\x.1<256 ^ x.2)(hb:b.length+(fe l).length<=140737488355328)(hn:l.length<=1000):jF b (EN l)=some (b++fe l,true):=by
 unfold jF;have hx:∀k,(fe (l.take k)).length<=(fe l).length:=fun k=>by
  have:fe l=fe (l.take k)++fe (l.drop k):=by unfold fe;rw[<- List.flatMap_append,List.take_append_drop]
  rw[this];simp
 rw[KL _ (by omega)];simp only[ae];refine jq l.length (fun k=>(b++fe (l.take k),(k:Int))) _ (fun k hk=>?_) ?_ (by simp[fe])
 . unfold oQ;have hk':k<(EN l).length:=by simpa[EN]using hk
   dsimp only;rw[if_pos (by omega),fJ hk'];simp only[ae];have e:(EN l)[k]=⟨(l[k].1:Int),(l[k].2:Int)⟩:=by simp[EN]
   obtain⟨h1,h8,hv⟩:=hl _ (aR hk);have hs:fe (l.take (k+1))=fe (l.take k)++be l[k].2 l[k].1:=by
    unfold fe;rw[List.take_succ_eq_append_getElem hk,List.flatMap_append];simp
   have hlen:=hx (k+1);rw[hs,ay,lh]at hlen;rw[e,P7 _ _ h1 h8 hv];simp only[ae,Bool.true_eq_false,if_false];rw[jQ (by omega) (by omega),O4 _ _ _ _ _ h8 (by simp;omega),jf hk (by omega),hs,az]
 . unfold oQ;rw[if_neg (by simp[EN])];simp
def pn(x:Int):Bool:=decide (0<=x/\x<=4611686018427387903)
theorem Rq(x:Int):fo ⟨0,x⟩=some (pn x):=by
 unfold fo pn ib;dsimp only;rw[jQ (by omega) (by omega)];by_cases h:x<0
 . rw[if_pos h,if_neg (by omega),decide_eq_false (by omega)]
 . rw[if_neg h,if_pos (by omega),if_pos (by omega)];congr 1;rw[bF];omega
theorem Ap(l:List Int)(hl:l.length<=1000):iQ l=some (l.all pn):=by
 unfold iQ;have:=yJ (f:=gX l) l (fun x=>!pn x) (fun k=>(k:Int)) (fun _=>false) true (fun k h hb=>?_) (fun k h hb=>?_) ?_ (s:=0) rfl
 . rcases this with⟨ha,he⟩|⟨k,h,hb,_,he⟩
   . rw[he];congr 1;symm;rw[aE];intro x hx;simpa using ha x hx
   . rw[he];congr 1;symm;rw[List.all_eq_false];exact⟨_,aR h,by simpa using hb⟩
 . unfold gX;rw[if_pos (by omega),fJ h];simp only[ae,Rq];simp only[Bool.not_eq_false']at hb;rw[hb,jf h (by omega)];simp
 . unfold gX;rw[if_pos (by omega),fJ h];simp only[ae,Rq];simp only[Bool.not_eq_true']at hb;rw[hb];simp
 . unfold gX;rw[if_neg (by omega)]
def Mb(c:bH):Bool:=c.kind == 1||c.kind == 2
def Ma(c:bH):Bool:=if c.kind=1 then pn c.to&&pn c.dN&&pn c.len&&c.data.isEmpty else pn c.to&&(c.dN == 0)&&(c.len == 0)
def Bb(d:bV):Int:=if d.bG.all Mb=false then 11 else if pn d.cD&&pn d.bW&&d.bG.all Ma then 0 else 2
theorem Ry{α:Type}(l:List α)(f:α->Bool)(k:Nat)(h:k<l.length):(l.take (k+1)).all f=((l.take k).all f&&f l[k]):=by
 rw[List.take_succ_eq_append_getElem h,List.all_append];simp only[List.all_cons,List.all_nil,Bool.and_true]
theorem VJ(d:bV)(hn:d.bG.length<=9223372036854775807):nz d=some (Bb d):=by
 unfold nz;rw[Ap _ (by simp)];simp only[ae,List.all_cons,List.all_nil,Bool.and_true];have:=yJ (f:=iM d) d.bG (fun c=>!Mb c) (fun k=>((pn d.cD&&pn d.bW&&(d.bG.take k).all Ma),(k:Int))) (fun _=>.inr 11) (.inl (pn d.cD&&pn d.bW&&d.bG.all Ma)) (fun k h hb=>?_) (fun k h hb=>?_) ?_ (s:=(pn d.cD&&pn d.bW,0)) (by simp)
 . unfold Bb;rcases this with⟨ha,he⟩|⟨k,h,hb,_,he⟩
   . have:d.bG.all Mb=true:=by rw[aE];intro x hx;simpa using ha x hx
     rw[he,this];simp only[ae,fX,Bool.true_eq_false,if_false];cases(pn d.cD&&pn d.bW&&d.bG.all Ma)<;>rfl
   . have:d.bG.all Mb=false:=by rw[List.all_eq_false];exact⟨_,aR h,by simpa using hb⟩
     rw[he,this];rfl
 . unfold iM;dsimp only;rw[if_pos (by omega),fJ h];simp only[ae];rw[jf h hn,Ry _ _ _ h,<- Bool.and_assoc];generalize (pn d.cD&&pn d.bW&&(d.bG.take k).all Ma)=a;generalize d.bG[k]=c at*
   rw[Ap _ (by simp),Ap _ (by simp)];unfold Mb at hb;unfold Ma;by_cases h1:c.kind=1
   . rw[if_pos h1,if_pos h1];have:((c.data.length:Int) == 0)=c.data.isEmpty:=by cases c.data<;>simp<;>omega
     rw[this];simp only[List.all_cons,List.all_nil,Bool.and_true,ae];cases a<;>cases pn c.to<;>cases pn c.dN<;>cases pn c.len<;>rfl
   . have h2:c.kind=2:=by simpa[h1]using hb
     rw[if_neg h1,if_pos h2,if_neg h1];simp only[List.all_cons,List.all_nil,Bool.and_true,ae];by_cases hf:c.dN=0
     . simp only[hf,if_true];cases a<;>cases pn c.to<;>rfl
     . have:(c.dN == 0)=false:=by simpa using hf
       simp only[hf,if_false,this];cases a<;>cases pn c.to<;>rfl
 . unfold iM;dsimp only;rw[if_pos (by omega),fJ h];simp only[ae];generalize d.bG[k]=c at*
   unfold Mb at hb;simp at hb;rw[if_neg hb.1,if_neg hb.2]
 . unfold iM;rw[if_neg (by simp)];simp
def pV(c:bH):List UInt8:=be 1 c.kind.toNat++(be 8 c.to.toNat++(if c.kind=1 then be 8 c.dN.toNat++be 8 c.len.toNat else be 8 c.data.length++c.data))
def GJ(d:bV):List UInt8:=FG++(be 1 1++(be 8 d.cD.toNat++(be 8 d.bW.toNat++(lb 32 d.mw++(lb 32 d.mu++be 4 d.bG.length)))))
def enc(d:bV):List UInt8:=GJ d++d.bG.flatMap pV
theorem nU{α:Type}(n:Nat)(f:Nat->α):(lb n f).length=n:=by simp[lb]
theorem CN(d:bV):(GJ d).length=89:=by simp[GJ,lh,nU,FG]
theorem uG{x:Int}(h:pn x=true):∃n:Nat,x=(n:Int)/\n<=4611686018427387903:=by
 unfold pn at h;simp at h;exact⟨x.toNat,by omega,by omega⟩
theorem uw{n:Nat}(h:n<=4611686018427387903):IntKind.u64.wrap (n:Int)=(n:Int):=Xz (by omega) (by omega)
structure M6(c:bH):Prop where
 k:c.kind=1\/c.kind=2
 to:∃n:Nat,c.to=(n:Int)/\n<=4611686018427387903
 copy:c.kind=1->∃f l:Nat,c.dN=(f:Int)/\f<=4611686018427387903/\c.len=(l:Int)/\l<=4611686018427387903/\c.data=[]
 lit:c.kind=2->c.dN=0/\c.len=0
theorem Wj{c:bH}(hk:Mb c=true)(hc:Ma c=true):M6 c:=by
 unfold Mb at hk;unfold Ma at hc;by_cases h1:c.kind=1
 . rw[if_pos h1]at hc;simp only[al,List.isEmpty_iff]at hc;obtain⟨f,e1,e2⟩:=uG hc.1.1.2;obtain⟨l,e3,e4⟩:=uG hc.1.2;exact⟨.inl h1,uG hc.1.1.1,fun _=>⟨f,l,e1,e2,e3,e4,hc.2⟩,fun k=>by omega⟩
 . have h2:c.kind=2:=by simpa[h1]using hk
   rw[if_neg h1]at hc;simp only[al,beq_iff_eq]at hc;exact⟨.inr h2,uG hc.1.1,fun k=>by omega,fun _=>⟨hc.1.2,hc.2⟩⟩
structure M7(d:bV):Prop where
 abh:∃n:Nat,d.cD=(n:Int)/\n<=4611686018427387903
 new:∃n:Nat,d.bW=(n:Int)/\n<=4611686018427387903
 all:∀c∈d.bG,M6 c
theorem YW{d:bV}(h:Bb d=0):M7 d:=by
 unfold Bb at h;split at h
 . cases h
 . rename_i hk;split at h
   . rename_i hc;simp only[al]at hc;simp only[Bool.not_eq_false]at hk;exact⟨uG hc.1.1,uG hc.1.2,fun c hm=>Wj (aE.mp hk c hm) (aE.mp hc.2 c hm)⟩
   . cases h
theorem Wa{α β:Type}(l:List α)(f:α->List β)(k:Nat)(h:k<l.length):((l.take k).flatMap f).length+(f l[k]).length<=(l.flatMap f).length:=by
 have e:l.flatMap f=(l.take k).flatMap f++(f l[k]++(l.drop (k+1)).flatMap f):=by
  conv=>lhs;rw[<- List.take_append_drop k l,List.drop_eq_getElem_cons h]
  rw[List.flatMap_append,List.flatMap_cons]
 rw[e];simp
theorem Qa{α β:Type}(l:List α)(f:α->List β)(k:Nat)(h:k<l.length):(l.take (k+1)).flatMap f=(l.take k).flatMap f++f l[k]:=by
 rw[List.take_succ_eq_append_getElem h,List.flatMap_append];simp
end
section
open G
theorem FO(n:Nat)(h:n<=4611686018427387903):eK (n:Int)=some ⟨(n:Int),8⟩:=by unfold eK;rw[uw h]
theorem XX{n:Nat}(h:n<=4611686018427387903):n<256 ^ 8:=by
 have:(256:Nat) ^ 8=18446744073709551616:=by decide
 omega
theorem ZQ(f:Nat->UInt8):((lb 32 f).drop (0:Int).toNat).take ((32:Int)-(0:Int)).toNat=lb 32 f:=by
 show((lb 32 f).drop 0).take 32=_;rw[List.drop_zero,bA (by rw[nU];exact Nat.le_refl _)]
theorem aau:nW (0<=(0:Int)/\(0:Int)<32/\(0:Int)<=(32:Int)/\(32:Int)<=32)=some ():=by unfold nW;rw[if_pos (by decide)]
theorem Re{d:bV}(h:M7 d)(hw:Bb d=0)(hn:d.bG.length<4294967296)(hs:(enc d).length<=140737488355328):j8 d=some (enc d,0):=by
 unfold j8;have hl:(enc d).length=89+(d.bG.flatMap pV).length:=by unfold enc;rw[ay,CN]
 obtain⟨⟨n1,e1,b1⟩,⟨n2,e2,b2⟩,hall⟩:=h;rw[VJ d (by omega),hw];simp only[ae];rw[if_neg (by simp),e1,e2,FO n1 b1,FO n2 b2];simp only[ae];have hf:=O3 [(1,1),(n1,8),(n2,8)] [71,82,70,84] (by simp;exact⟨XX b1,XX b2⟩) (by simp[fe,lh]) (by simp);rw[show([(⟨1,1⟩:cL),⟨(n1:Int),8⟩,⟨(n2:Int),8⟩]:List cL)=EN [(1,1),(n1,8),(n2,8)] from rfl,show([u8 71,u8 82,u8 70,u8 84]:List UInt8)=[71,82,70,84] from JG,hf];simp only[ae,aau,ZQ];rw[nS (by simp[fe,lh,nU])];simp only[ae];rw[nS (by simp[fe,lh,nU])];simp only[ae];rw[uw (n:=d.bG.length) (by omega),show([(⟨(d.bG.length:Int),4⟩:cL)]:List cL)=EN [(d.bG.length,4)] from rfl];rw[O3 _ _ (by simp;omega) (by simp[fe,lh,nU]) (by simp)];simp only[ae];have eH:(([71,82,70,84]:List UInt8)++fe [(1,1),(n1,8),(n2,8)]++lb 32 d.mw++lb 32 d.mu++fe [(d.bG.length,4)])=GJ d:=by
  unfold GJ;rw[e1,e2];simp[FG,fe]
 rw[eH];have hit:Iter (jJ d) (GJ d,0)=some (enc d):=by
  refine jq d.bG.length (fun k=>(GJ d++(d.bG.take k).flatMap pV,(k:Int))) _ (fun k hk=>?_) ?_ (by simp)
  . have hfl:=Wa d.bG pV k hk;unfold jJ;dsimp only;rw[if_pos (by omega),fJ hk,Qa _ _ _ hk,jf hk (by omega)];simp only[ae];have g:=hall _ (aR hk);generalize d.bG[k]=c at*
    obtain⟨⟨t,et,bt⟩,hcp,hlt⟩:=And.intro g.to (And.intro g.copy g.lit);have hp:(GJ d++(d.bG.take k).flatMap pV).length+(pV c).length<=140737488355328:=by rw[ay,CN];omega
    obtain⟨kn,ekn,bkn⟩:∃n:Nat,c.kind=(n:Int)/\n<256:=by rcases g.k with k|k<;>exact⟨c.kind.toNat,by omega,by omega⟩
    rw[et,FO t bt,ekn,uw (n:=kn) (by omega)];simp only[ae];by_cases h1:c.kind=1
    . obtain⟨f,l,ef,bf,el,bl,_⟩:=hcp h1;have hcl:(pV c).length=25:=by unfold pV;rw[if_pos h1];simp[lh]
      rw[if_pos (by omega),ef,el,FO f bf,FO l bl];simp only[ae];rw[nS (by simp)];simp only[ae];rw[show([(⟨(kn:Int),1⟩:cL),⟨(t:Int),8⟩]:List cL)++[⟨(f:Int),8⟩,⟨(l:Int),8⟩]=EN [(kn,1),(t,8),(f,8),(l,8)] from rfl];rw[O3 _ _ (by simp;exact⟨bkn,XX bt,XX bf,XX bl⟩) (by simp[fe,lh]at hp ⊢; omega) (by simp)];simp only[ae];rw[show pV c=be 1 kn++(be 8 t++(be 8 f++be 8 l))by unfold pV;rw[if_pos h1,et,ef,el,ekn];rfl];simp[fe]
    . have hcl:(pV c).length=17+c.data.length:=by unfold pV;rw[if_neg h1];simp[lh];omega
      rw[if_neg (by omega),FO c.data.length (by omega)];simp only[ae];rw[nS (by simp)];simp only[ae];rw[show([(⟨(kn:Int),1⟩:cL),⟨(t:Int),8⟩]:List cL)++[⟨(c.data.length:Int),8⟩]=EN [(kn,1),(t,8),(c.data.length,8)] from rfl];rw[O3 _ _ (by simp;exact⟨bkn,XX bt,XX (by omega)⟩) (by simp[fe,lh]at hp ⊢; omega) (by simp)];simp only[ae];rw[nS (by simp[fe,lh]at hp ⊢; omega)];simp only[ae];rw[show pV c=be 1 kn++(be 8 t++(be 8 c.data.length++c.data))by unfold pV;rw[if_neg h1,et,ekn];rfl];simp[fe]
  . unfold jJ;rw[if_neg (by simp)];simp[enc]
 rw[hit];rfl
def uB(d:bV):Bool:=d.bG.all (fun c=>decide (c.data.length<=300))&&decide (d.bG.length<=40)
theorem Yc(d:bV)(hn:d.bG.length<=9223372036854775807):jA d=some (uB d):=by
 unfold jA uB;have hK:=yJ (f:=gk d) d.bG (fun c=>!decide (c.data.length<=300)) (fun k=>(k:Int)) (fun _=>.inr false) (.inl ()) (fun k h hb=>?_) (fun k h hb=>?_) ?_ (s:=0) rfl
 . rcases hK with⟨ha,he⟩|⟨k,h,hb,_,he⟩
   . have:d.bG.all (fun c=>decide (c.data.length<=300))=true:=by rw[aE];intro x hx;simpa using ha x hx
     rw[he,this];simp only[ae,fX,Bool.true_and];congr 1;rw[bF];omega
   . have:d.bG.all (fun c=>decide (c.data.length<=300))=false:=by rw[List.all_eq_false];exact⟨_,aR h,by simpa using hb⟩
     rw[he,this];rfl
 . unfold gk;rw[if_pos (by omega),fJ h];simp only[ae];simp at hb;rw[if_neg (by omega),jf h hn]
 . unfold gk;rw[if_pos (by omega),fJ h];simp only[ae];simp at hb;rw[if_pos (by omega)]
 . unfold gk;rw[if_neg (by omega)]
theorem V9{d:bV}(h:uB d=true):d.bG.length<=40/\(enc d).length<=100000:=by
 unfold uB at h;simp only[al,aJ]at h;refine⟨h.2,?_⟩;have key:∀l:List bH,l.all (fun c=>decide (c.data.length<=300))=true->(l.flatMap pV).length<=l.length*400:=by
  intro l
  induction l with
  |nil=>intro _;simp
  |cons c l ih=>
   intro hl
   rw[List.all_cons]at hl
   simp only[al,aJ]at hl
   have:=ih hl.2
   have hc:(pV c).length<=400:=by unfold pV;split<;>simp[lh]<;>omega
   rw[List.flatMap_cons,ay,bw];omega
 have:=key _ h.1;unfold enc;rw[ay,CN];omega
end
section
open G
open RS
structure Rd(s:RS)(rest:List UInt8):Prop where
 c:s.code=0
 p:s.pos=0
 a:s.at_<=s.bs.length
 d:s.bs.drop s.at_=rest
theorem Rd.len{s:RS}{l:List UInt8}(h:Rd s l):s.at_+l.length=s.bs.length:=by have:=h.a;rw[<- h.d,bh];omega
theorem Rd.take{s:RS}{l rest:List UInt8}(h:Rd s (l++rest)):s.take l.length=(some l,{s with at_:=s.at_+l.length})/\Rd {s with at_:=s.at_+l.length} rest:=by
 have hl:=h.len;rw[ay]at hl;refine⟨?_,h.c,h.p,by show s.at_+l.length<=s.bs.length;omega,?_⟩
 . rw[uY s h.c l.length (by omega),h.d,List.take_left]
 . show s.bs.drop (s.at_+l.length)=rest;rw[<- List.drop_drop,h.d,List.drop_left]
theorem Rd.uint{s:RS}{k v:Nat}{rest:List UInt8}(h:Rd s (be k v++rest))(h1:1<=k)(h8:k<=8)(hv:v<256 ^ k):∃s',s.uint k=(v,s')/\Rd s' rest/\s'.bs=s.bs:=by
 obtain⟨ht,hr⟩:=h.take;rw[lh]at ht hr;have hz:size k=k:=by unfold size;rw[if_neg (by omega)]
 refine⟨_,?_,hr,rfl⟩;rw[qR s (show(s.take (size k)).1=_ by rw[hz,ht]),hz,ht,Zq hv]
theorem Rd.length{s:RS}{v:Nat}{rest:List UInt8}(h:Rd s (be 8 v++rest))(hv:v<=4611686018427387903):∃s',s.length=((v:Int),s')/\Rd s' rest/\s'.bs=s.bs:=by
 obtain⟨s',e,hr⟩:=h.uint (by decide) (by decide) (XX hv);refine⟨s',?_,hr⟩;unfold RS.length;rw[show s.uint 8=(v,s') from e,if_neg (by dsimp only;omega)]
theorem Rd.bytes{s:RS}{l rest:List UInt8}(h:Rd s (l++rest)):∃s',s.bytes l.length=(l,s')/\Rd s' rest/\s'.bs=s.bs:=by
 obtain⟨ht,hr⟩:=h.take;exact⟨_,by rw[Cs s (show(s.take l.length).1=_ by rw[ht]),ht],hr,rfl⟩
theorem Rd.expect{s:RS}{l rest:List UInt8}(h:Rd s (l++rest))(c:Int):∃s',s.expect l c=(true,s')/\Rd s' rest/\s'.bs=s.bs:=by
 obtain⟨ht,hr⟩:=h.take;refine⟨_,?_,hr,rfl⟩;unfold RS.expect;rw[if_neg (by simp[h.c]),h.d,List.take_left,List.take_length,if_neg (by simp),ht];rfl
theorem Rd.cmd{s:RS}{c:bH}{rest:List UInt8}(hg:M6 c)(hb:s.bs.length<=1099511627776)(h:Rd s (pV c++rest)):∃s',s.cmd=(c,s')/\Rd s' rest/\s'.bs=s.bs:=by
 obtain⟨t,et,bt⟩:=hg.to;unfold pV at h;obtain⟨kd,to,dN,len,data⟩:=c;dsimp only at*
 subst et;simp only[aG]at h;unfold RS.cmd;rcases hg.k with hk|hk<;>dsimp only at hk<;>subst hk
 . obtain⟨f,l,ef,bf,el,bl,ed⟩:=hg.copy rfl;dsimp only at ef el ed;subst ef el ed;rw[if_pos rfl]at h;simp only[az,aG]at h;obtain⟨s1,e1,r1,b1⟩:=h.uint (by decide) (by decide) (by decide);obtain⟨s2,e2,r2,b2⟩:=r1.length bt;obtain⟨s3,e3,r3,b3⟩:=r2.length bf;obtain⟨s4,e4,r4,b4⟩:=r3.length bl;refine⟨s4,?_,r4,by rw[b4,b3,b2,b1]⟩;have e1':s.uint 1=(1,s1):=e1;rw[e1',if_pos rfl];simp only[e2,e3,e4]
 . obtain⟨ef,el⟩:=hg.lit rfl;dsimp only at ef el;subst ef el;rw[if_neg (by decide)]at h;simp only[az]at h;have hd:data.length<=4611686018427387903:=by
    have:=h.len;simp only[ay]at this;omega
   obtain⟨s1,e1,r1,b1⟩:=h.uint (by decide) (by decide) (by decide);obtain⟨s2,e2,r2,b2⟩:=r1.length bt;obtain⟨s3,e3,r3,b3⟩:=r2.length hd;obtain⟨s4,e4,r4,b4⟩:=r3.bytes;refine⟨s4,?_,r4,by rw[b4,b3,b2,b1]⟩;have e1':s.uint 1=(2,s1):=e1;rw[e1',if_neg (by dsimp only;decide),if_pos rfl];simp only[e2,e3,e4]
theorem Rd.qq{rest:List UInt8}:∀(l:List bH) (s:RS) (acc:List bH),(∀c∈l,M6 c)->s.bs.length<=1099511627776->Rd s (l.flatMap pV++rest)->∃s',RS.qq l.length s acc=(s',acc++l)/\Rd s' rest/\s'.bs=s.bs
 |[],s,acc,_,_,h=>⟨s,by simp[RS.qq],h,rfl⟩
 |c::l,s,acc,hg,hb,h=>by
  rw[List.flatMap_cons,az]at h;obtain⟨s1,e1,r1,b1⟩:=h.cmd (hg c (aq ..)) hb;obtain⟨s2,e2,r2,b2⟩:=Rd.qq l s1 (acc++[c]) (fun x hx=>hg x (au _ hx)) (by rw[b1];exact hb) r1;refine⟨s2,?_,r2,by rw[b2,b1]⟩;rw[bw,RS.qq,if_pos h.c,e1,e2,az];rfl
theorem VR{d:bV}(hg:M7 d)(hn:d.bG.length<4294967296)(tail:List UInt8)(hb:(enc d++tail).length<=1099511627776):
 Rd (iV.s8 (enc d++tail)).1 tail/\iV.d (enc d++tail)=⟨d.cD,d.bW,hash (lb 32 d.mw),hash (lb 32 d.mu),d.bG⟩/\(iV.s8 (enc d++tail)).1.bs=enc d++tail:=by
 obtain⟨⟨n1,e1,b1⟩,⟨n2,e2,b2⟩,hall⟩:=hg
 have h0:Rd (iV.s0 (enc d++tail)) (enc d++tail):=⟨rfl,rfl,Nat.zero_le _,rfl⟩
 have hbs:(iV.s0 (enc d++tail)).bs=enc d++tail:=rfl
 generalize hB:enc d++tail=B at*
 have hB':B=FG++(be 1 1++(be 8 n1++(be 8 n2++(lb 32 d.mw++(lb 32 d.mu++(be 4 d.bG.length++(d.bG.flatMap pV++tail))))))):=by rw[<- hB];simp[enc,GJ,e1,e2]
 replace h0:Rd (iV.s0 B) _:=⟨h0.c,h0.p,h0.a,h0.d.trans hB'⟩
 obtain⟨t1,q1,r1,u1⟩:=h0.expect 9
 have q1':iV.s1 B=t1:=iV.a1.symm.trans (congrArg Prod.snd q1)
 obtain⟨t2,q2,r2,u2⟩:=r1.uint (by decide) (by decide) (by decide)
 have q2':iV.s2 B=t2:=by
  rw[iV.a2,q1',show t1.uint 1=(1,t2) from q2,if_neg (by simp)]
 obtain⟨t3,q3,r3,u3⟩:=r2.length b1
 have q3':iV.s3 B=t3:=by rw[<- iV.a3,q2',q3]
 obtain⟨t4,q4,r4,u4⟩:=r3.length b2
 have q4':iV.s4 B=t4:=by rw[<- iV.a4,q3',q4]
 obtain⟨t5,q5,r5,u5⟩:=r4.bytes
 rw[nU]at q5
 replace q5:t4.bytes 32=_:=q5
 have q5':iV.s5 B=t5:=by rw[<- iV.a5,q4',q5]
 obtain⟨t6,q6,r6,u6⟩:=r5.bytes
 rw[nU]at q6
 replace q6:t5.bytes 32=_:=q6
 have q6':iV.s6 B=t6:=by rw[<- iV.a6,q5',q6]
 obtain⟨t7,q7,r7,u7⟩:=r6.uint (by decide) (by decide) (by simpa using hn)
 replace q7:t6.uint 4=_:=q7
 have q7':iV.s7 B=t7:=by rw[<- iV.a7,q6',q7]
 have hbs7:t7.bs=B:=by rw[u7,u6,u5,u4,u3,u2,u1];exact hbs
 obtain⟨t8,q8,r8,u8⟩:=Rd.qq d.bG t7 [] hall (by rw[hbs7];exact hb) r7
 have q8':iV.s8 B=(t8,d.bG):=by rw[<- iV.a8,q6',q7,q7'];exact q8
 rw[q8']
 refine⟨r8,?_,by rw[u8,hbs7]⟩
 rw[iV.ad,q2',q3',q4',q5',q3,q4,q5,q6,q8',e1,e2]
theorem VQ{d:bV}(hg:M7 d)(hn:d.bG.length<4294967296)(tail:List UInt8)(hb:(enc d++tail).length<=1099511627776):
 dec (enc d++tail)=if tail=[]then(⟨d.cD,d.bW,hash (lb 32 d.mw),hash (lb 32 d.mu),d.bG⟩,0,0)else(X9,12,((enc d).length:Int)):=by
 obtain⟨hr,hd,hbs⟩:=VR hg hn tail hb
 have hl:=hr.len
 rw[hbs,ay]at hl
 have ha:(iV.s8 (enc d++tail)).1.at_=(enc d).length:=by omega
 unfold dec
 rw[iV.a9,ha]
 cases tail with
 |nil=>have h1:¬ (enc d).length<(enc d++[]).length:=by simp
       rw[if_neg h1,if_neg (fun k=>k hr.c),if_pos rfl,hd]
 |cons x tail=>
  have h1:(enc d).length<(enc d++x::tail).length:=by simp
  rw[if_pos h1,if_pos (qC (by decide)),if_neg (by simp)]
  unfold RS.fail
  rw[if_pos ⟨hr.c,by decide⟩]
end
section
open IntKind(i64)
open G
namespace G
def eM(c:bH):Int:=if c.kind=1 then c.len else(c.data.length:Int)
def eF(c:bH):Int:=c.to+eM c
theorem uk(c:bH):fE c=some ⟨c.to,eM c⟩:=by unfold fE lR eM;split<;>rfl
theorem BF(c:bH):eT c=some (eM c):=by unfold eT eM;split<;>rfl
theorem qX(c:bH):dV c=some ⟨c.to,eM c⟩:=by unfold dV;rw[BF];rfl
def F7(o n:Int):Bool:=decide (0<=o/\0<=n/\o+n<=4611686018427387903)
theorem kp{o n:Int}:F7 o n=true↔0<=o/\0<=n/\o+n<=4611686018427387903:=by unfold F7;simp
theorem II(e:dj):fo e=some (F7 e.off e.len):=by
 have hm:ib e.off e.len≥0↔0<=e.off/\0<=e.len:=by unfold ib;split<;>omega
 unfold fo F7;by_cases h:0<=e.off/\0<=e.len
 . rw[if_pos (hm.2 h)];split
   . rw[jQ (by omega) (by omega)];congr 1;rw[bF];omega
   . congr 1;symm;rw[bD];omega
 . rw[if_neg (fun k=>h (hm.1 k))];congr 1;symm;rw[bD];omega
theorem PB(e:dj):gY e=some (F7 e.off e.len):=by
 unfold gY F7 c9;simp only[ae];split
 . split
   . split
     . rw[jQ (by omega) (by omega)];congr 1;rw[bF];omega
     . congr 1;symm;rw[bD];omega
   . congr 1;symm;rw[bD];omega
 . congr 1;symm;rw[bD];omega
def vl(c:bH):Int:=
 if c.kind≠1/\c.kind≠2 then 11 else if eM c=0 then 7 else if F7 c.to (eM c)=false then 2 else
  if c.kind=1 then(if c.data.length=0/\F7 c.dN c.len=true then 0 else 2)else if c.dN=0/\c.len=0 then 0 else 2
theorem Q9(c:bH):mj c=some (vl c):=by
 have e1:lR c=some ⟨⟨c.to,eM c⟩⟩:=by unfold lR eM;split<;>rfl
 unfold mj vl;simp only[e1,II,ae];by_cases k1:c.kind=1
 . by_cases t0:eM c=0
   . simp[k1,t0]
   . cases hv:F7 c.to (eM c)
     . simp[k1,t0,hv]
     . by_cases d0:c.data.length=0
       . cases hw:F7 c.dN c.len<;>simp[k1,t0,hv,d0,hw]
       . have:¬ (c.data.length:Int)=0:=by omega
         simp[k1,t0,hv,d0,this]
 . by_cases k2:c.kind=2
   . by_cases t0:eM c=0
     . simp[k2,t0]
     . cases hv:F7 c.to (eM c)
       . simp[k2,t0,hv]
       . by_cases f0:c.dN=0
         . by_cases l0:c.len=0<;>simp[k2,t0,hv,f0,l0]
         . simp[k2,t0,hv,f0]
   . simp[k1,k2]
theorem Px(c:bH):jK c=some (vl c):=by
 unfold jK vl ly;simp only[qX,BF,PB,ae];by_cases k1:c.kind=1
 . by_cases t0:eM c=0
   . simp[k1,t0]
   . cases hv:F7 c.to (eM c)
     . simp[k1,t0,hv]
     . by_cases d0:c.data.length=0
       . have:¬ (c.data.length:Int)>0:=by omega
         cases hw:F7 c.dN c.len<;>simp[k1,t0,hv,d0,hw]
       . have:0<c.data.length:=by omega
         simp[k1,t0,hv,d0,this]
 . by_cases k2:c.kind=2
   . by_cases t0:eM c=0
     . simp[k2,t0]
     . cases hv:F7 c.to (eM c)
       . simp[k2,t0,hv]
       . by_cases f0:c.dN=0
         . by_cases l0:c.len=0<;>simp[k2,t0,hv,f0,l0]
         . simp[k2,t0,hv,f0]
   . simp[k1,k2]
theorem ze{c:bH}(h:vl c=0):0<=c.to/\1<=eM c/\eF c<=4611686018427387903/\(c.kind=1->0<=c.dN/\0<=c.len/\c.dN+c.len<=4611686018427387903/\c.data=[])/\(c.kind≠1->c.kind=2/\c.dN=0/\c.len=0):=by
 unfold vl at h;split at h
 . omega
 . rename_i hk;split at h
   . omega
   . rename_i ht;split at h
     . omega
     . rename_i hv;have hv':=kp.1 (by simpa using hv);refine⟨hv'.1,by omega,hv'.2.2,fun k1=>?_,fun k1=>?_⟩
       . rw[if_pos k1]at h;split at h
         . rename_i hd;have:=kp.1 hd.2;exact⟨this.1,this.2.1,this.2.2,bq hd.1⟩
         . omega
       . rw[if_neg k1]at h;split at h
         . rename_i hd;exact⟨by omega,hd.1,hd.2⟩
         . omega
def F0(d:bV)(c:bH):Int:=if vl c≠0 then vl c else if c.kind=1/\c.dN+c.len>d.cD then 5 else if eF c>d.bW then 6 else 0
theorem FZ(d:bV)(c:bH):nt d c=some (F0 d c):=by
 unfold nt F0 nY gB;simp only[Q9,uk,ae];by_cases h:vl c=0
 . have hz:=ze h;simp only[h,ne_eq,not_true_eq_false,if_false];have e1:i64.wrap (c.to+eM c)=eF c:=jQ (by unfold eF at hz;omega) (by unfold eF at hz;omega);by_cases k1:c.kind=1
   . have h2:=hz.2.2.2.1 k1;have e2:i64.wrap (c.dN+c.len)=c.dN+c.len:=jQ (by omega) (by omega);by_cases h3:c.dN+c.len>d.cD<;>by_cases h4:eF c>d.bW<;>simp[k1,h3,h4,e1,e2]
   . by_cases h4:eF c>d.bW<;>simp[k1,h4,e1]
 . simp only[h,ne_eq,not_false_eq_true,if_true]
theorem sb(d:bV)(c:bH):je d c=some (F0 d c):=by
 unfold je F0;simp only[Px,BF,ae];by_cases h:vl c=0
 . have hz:=ze h;simp only[h,ne_eq,not_true_eq_false,if_false];have e1:i64.wrap (c.to+eM c)=eF c:=jQ (by unfold eF at hz;omega) (by unfold eF at hz;omega);by_cases k1:c.kind=1
   . have h2:=hz.2.2.2.1 k1;have e2:i64.wrap (c.dN+c.len)=c.dN+c.len:=jQ (by omega) (by omega);by_cases h3:c.dN+c.len>d.cD<;>by_cases h4:eF c>d.bW<;>simp[k1,h3,h4,e1,e2]
   . by_cases h4:eF c>d.bW<;>simp[k1,h4,e1]
 . simp only[h,ne_eq,not_false_eq_true,if_true]
structure Good(d:bV)(c:bH):Prop where
 QT:0<=c.to
 zB:1<=eM c
 fits:eF c<=d.bW
 max:eF c<=4611686018427387903
 copy:c.kind=1->0<=c.dN/\0<=c.len/\c.dN+c.len<=d.cD/\c.dN+c.len<=4611686018427387903/\c.data=[]
 lit:c.kind≠1->c.kind=2/\c.dN=0/\c.len=0
theorem mJ{d:bV}{c:bH}:F0 d c=0↔Good d c:=by
 constructor
 . intro h;unfold F0 at h;split at h
   . rename_i h1;exact absurd h h1
   . rename_i h1;have hz:=ze (by simpa using h1);split at h
     . omega
     . rename_i h2;split at h
       . omega
       . rename_i h3;exact⟨hz.1,hz.2.1,by omega,hz.2.2.1,fun k=>by have:=hz.2.2.2.1 k;exact⟨this.1,this.2.1,by have:=fun q=>h2 ⟨k,q⟩;omega,this.2.2.1,this.2.2.2⟩,hz.2.2.2.2⟩
 . intro h;have hc:vl c=0:=by
    unfold vl;have hk:¬ (c.kind≠1/\c.kind≠2):=fun k=>k.2 (h.lit k.1).1
    have:=h.QT;have:=h.zB;have:=h.max;rw[if_neg hk,if_neg (by omega),if_neg (by rw[kp.2 ⟨h.QT,by omega,h.max⟩];simp)];by_cases k1:c.kind=1
    . have hq:=h.copy k1;rw[if_pos k1,if_pos ⟨by rw[hq.2.2.2.2];rfl,kp.2 ⟨hq.1,hq.2.1,hq.2.2.2.1⟩⟩]
    . have hq:=h.lit k1;rw[if_neg k1,if_pos ⟨hq.2.1,hq.2.2⟩]
   unfold F0;rw[if_neg (by simpa using hc),if_neg (fun k=>by have:=(h.copy k.1).2.2.1;omega),if_neg (by have:=h.fits;omega)]
theorem Ui{d:bV}{c:bH}:F0 d c≠0↔¬ Good d c:=not_congr mJ
def ov(a b:bH):Bool:=decide (a.to<eF b/\b.to<eF a)
theorem WW(a b:bH):ov a b=ov b a:=by unfold ov;rw[bF];omega
theorem Cb{d:bV}{a b:bH}(ha:Good d a)(hb:Good d b):∃e,lu ⟨a.to,eM a⟩ ⟨b.to,eM b⟩=some (e,ov a b):=by
 have:=ha.QT;have:=hb.QT;have:=ha.max;have:=hb.max;have:=ha.zB;have:=hb.zB;unfold lu gB og;simp only[ae];unfold eF at*
 rw[jQ (x:=a.to+eM a) (by omega) (by omega),jQ (x:=b.to+eM b) (by omega) (by omega)];have hx:ib (a.to+eM a) (b.to+eM b)-imax a.to b.to<=4611686018427387903/\ -4611686018427387903<=ib (a.to+eM a) (b.to+eM b)-imax a.to b.to/\(ib (a.to+eM a) (b.to+eM b)-imax a.to b.to<1↔¬ (a.to<b.to+eM b/\b.to<a.to+eM a)):=by
  unfold ib imax;split<;>split<;>omega
 rw[jQ (by omega) (by omega)];unfold ov eF;split
 . rename_i h;exact⟨_,by rw[decide_eq_false (hx.2.2.1 h)];rfl⟩
 . rename_i h;exact⟨_,by rw[bg (Classical.not_not.1 (fun k=>h (hx.2.2.2 k)))];rfl⟩
theorem AG{d:bV}{a b:bH}(ha:Good d a)(hb:Good d b):∃e,iy ⟨a.to,eM a⟩ ⟨b.to,eM b⟩=some e/\decide (e.len>0)=ov a b:=by
 have:=ha.QT;have:=hb.QT;have:=ha.max;have:=hb.max;have:=ha.zB;have:=hb.zB;unfold iy;simp only;unfold eF at*
 rw[jQ (x:=a.to+eM a) (by omega) (by omega),jQ (x:=b.to+eM b) (by omega) (by omega)];have hx:ib (a.to+eM a) (b.to+eM b)-imax a.to b.to<=4611686018427387903/\ -4611686018427387903<=ib (a.to+eM a) (b.to+eM b)-imax a.to b.to/\(imax a.to b.to≥ib (a.to+eM a) (b.to+eM b)↔¬ (a.to<b.to+eM b/\b.to<a.to+eM a)):=by
  unfold ib imax;split<;>split<;>omega
 unfold ov eF;split
 . rename_i h;exact⟨_,rfl,by rw[decide_eq_false (hx.2.2.1 h)];rfl⟩
 . rename_i h;refine⟨_,rfl,?_⟩;rw[jQ (by omega) (by omega),bF];constructor
   . intro _;exact Classical.not_not.1 (fun k=>h (hx.2.2.2 k))
   . intro _;show ib (a.to+eM a) (b.to+eM b)-imax a.to b.to>0;omega
abbrev cat(l:List bH)(i:Nat):bH:=l.getD i default
theorem eP{l:List bH}{i:Nat}(h:i<l.length):cat l i=l[i]:=by simp[cat,h]
def Ov(l:List bH)(i:Nat):Bool:=(l.take i).any fun c=>ov (cat l i) c
end G
end
section
open IntKind(i64)
open G
namespace G
def Ix(l:List bH)(x:Int):Prop:=0<=x/\x<l.length
def key(l:List bH)(x:Int):Int:=(l.getD x.toNat default).to
theorem Gs{l:List bH}{x y:Int}(hx:Ix l x)(hy:Ix l y):∃c,fG x y l=some c/\(c<0↔key l x<key l y):=by
 unfold fG mW mi key;obtain⟨h1,h2⟩:=hx;obtain⟨h3,h4⟩:=hy;rw[uF (k:=x.toNat) default (by omega) (by omega),uF (k:=y.toNat) default (by omega) (by omega)];simp only[ae,bne_self_eq_false,aH,if_false];generalize (l.getD x.toNat default).to=p;generalize (l.getD y.toNat default).to=q;split
 . exact⟨_,rfl,by omega⟩
 . split
   . exact⟨_,rfl,by omega⟩
   . exact⟨_,rfl,by omega⟩
def sw(ys:List Int)(i j:Nat):List Int:=(ys.set i (ys.getD j 0)).set j (ys.getD i 0)
theorem xB(ys:List Int)(i p:Nat)(v:Int):(ys.set i v).getD p 0=if p=i/\i<ys.length then v else ys.getD p 0:=by
 simp only[List.getD_eq_getElem?_getD,List.getElem?_set];by_cases h:i=p
 . subst h;by_cases h2:i<ys.length<;>simp[h2]
 . rw[if_neg h,if_neg (fun k=>h k.1.symm)]
theorem Aj{ys:List Int}{i j:Nat}(hi:i<ys.length)(hj:j<ys.length)(p:Nat):(sw ys i j).getD p 0=if p=j then ys.getD i 0 else if p=i then ys.getD j 0 else ys.getD p 0:=by
 unfold sw;rw[xB,xB];simp only[List.length_set];by_cases h1:p=j
 . rw[if_pos ⟨h1,hj⟩,if_pos h1]
 . rw[if_neg (fun k=>h1 k.1),if_neg h1];by_cases h2:p=i
   . rw[if_pos ⟨h2,hi⟩,if_pos h2]
   . rw[if_neg (fun k=>h2 k.1),if_neg h2]
theorem BZ{ys:List Int}{i j:Nat}(hi:i<ys.length)(hj:j<ys.length):(sw ys i j).Perm ys:=by
 unfold sw;have e1:ys.getD j 0=ys[j]:=by simp[hj]
 have e2:ys.getD i 0=ys[i]:=by simp[hi]
 rw[e1,e2];exact List.set_set_perm hi hj
structure Pm(xs ys:List Int)(lo hi:Nat):Prop where
 perm:ys.Perm xs
 out:∀p,p<lo\/hi<=p->ys.getD p 0=xs.getD p 0
theorem Pm.refl(xs:List Int)(lo hi:Nat):Pm xs xs lo hi:=⟨.refl _,fun _ _=>rfl⟩
theorem Pm.trans{xs ys zs:List Int}{lo hi:Nat}(h:Pm xs ys lo hi)(k:Pm ys zs lo hi):Pm xs zs lo hi:=⟨k.perm.trans h.perm,fun p hp=>(k.out p hp).trans (h.out p hp)⟩
theorem Pm.mono{xs ys:List Int}{lo hi lo' hi':Nat}(h:Pm xs ys lo hi)(h1:lo'<=lo)(h2:hi<=hi'):Pm xs ys lo' hi':=⟨h.perm,fun p hp=>h.out p (by omega)⟩
theorem Pm.len{xs ys:List Int}{lo hi:Nat}(h:Pm xs ys lo hi):ys.length=xs.length:=h.perm.length_eq
theorem Pm.sw{xs ys:List Int}{lo hi i j:Nat}(h:Pm xs ys lo hi)(hi1:lo<=i/\i<hi)(hj1:lo<=j/\j<hi)(hl:hi<=xs.length):Pm xs (sw ys i j) lo hi:=by
 have hlen:=h.len;refine⟨(BZ (by omega) (by omega)).trans h.perm,fun p hp=>?_⟩;rw[Aj (by omega) (by omega),if_neg (by omega),if_neg (by omega)];exact h.out p hp
def nf(l:List bH)(ys:List Int):Prop:=∀x∈ys,Ix l x
theorem Pm.all{l:List bH}{xs ys:List Int}{lo hi:Nat}(h:Pm xs ys lo hi)(ha:nf l xs):nf l ys:=fun x hx=>ha x (h.perm.mem_iff.1 hx)
theorem nf.get{l:List bH}{ys:List Int}(h:nf l ys){p:Nat}(hp:p<ys.length):Ix l (ys.getD p 0):=by
 have:ys.getD p 0=ys[p]:=by simp[hp]
 rw[this];exact h _ (aR hp)
def qi(l:List bH)(ys:List Int)(lo hi:Nat):Prop:=∀p q,lo<=p->p<q->q<hi->key l (ys.getD p 0)<=key l (ys.getD q 0)
theorem qi.lF{l:List bH}{xs ys:List Int}{lo hi a b:Nat}(h:qi l xs lo hi)(hp:Pm xs ys a b)(hd:hi<=a\/b<=lo):qi l ys lo hi:=fun p q h1 h2 h3=>by
 rw[hp.out p (by omega),hp.out q (by omega)];exact h p q h1 h2 h3
def PI:Nat:=1125899906842624
theorem ku:PI=1125899906842624:=rfl
section
variable {l:List bH}
theorem Qe{a i:Nat}{ys:List Int}{w:Int×List Int}(hw:w.1=(i:Int))(hall:nf l ys)(hi:i<ys.length)(ha:a<=i)(hb:ys.length<=PI)(hs:qi l ys a i):
 ∃zs,Iter (cb (a:Int) l w) ((i:Int),ys)=some (.inl (((i+1:Nat):Int),zs))/\Pm ys zs a (i+1)/\qi l zs a (i+1):=by
 rw[ku]at hb
 obtain⟨r,hr,zs,rfl,h1,h2⟩:=e8 (f:=cb (a:Int) l w)
  (fun k s=>∃(j:Nat) (zs:List Int),s=((j:Int),zs)/\k=j/\a<=j/\j<=i/\Pm ys zs a (i+1)/\∀p q,a<=p->p<q->q<=i->q≠j->key l (zs.getD p 0)<=key l (zs.getD q 0))
  (fun r=>∃zs,r=.inl (((i+1:Nat):Int),zs)/\Pm ys zs a (i+1)/\qi l zs a (i+1)) (by
  rintro k s ⟨j,zs,rfl,hkj,hj1,hj2,hp,ho⟩
  have hlen:=hp.len
  have hal:=hp.all hall
  unfold cb
  have done:(∀p,a<=p->p<j->key l (zs.getD p 0)<=key l (zs.getD j 0))->qi l zs a (i+1):=fun hd p q h1 h2 h3=>by
   by_cases hq:q=j
   . subst hq;exact hd p h1 h2
   . exact ho p q h1 h2 (by omega) hq
  by_cases hja:j>a
  . have hj':i64.wrap ((j:Int)-1)=((j-1:Nat):Int):=by rw[jQ (by omega) (by omega)];omega
    obtain⟨c,hc,hcl⟩:=Gs (l:=l) (hal.get (p:=j) (by omega)) (hal.get (p:=j-1) (by omega))
    rw[if_pos (show(j:Int)>(a:Int)by omega),hj',dP (0:Int) (show j<zs.length by omega),dP (0:Int) (show j-1<zs.length by omega)]
    simp only[ae,hc]
    by_cases hlt:c<0
    . left
      rw[if_pos (by simpa using hlt)]
      obtain⟨x,hx⟩:=mE (l:=zs.set j (zs.getD (j-1) 0)) (i:=((j-1:Nat):Int)) (k:=j-1) rfl (by simp;omega)
      simp only[aG,hx,ae]
      refine⟨j-1,_,rfl,by omega,j-1,sw zs j (j-1),rfl,rfl,by omega,by omega,hp.sw (by omega) (by omega) (by omega),fun p q h1 h2 h3 h4=>?_⟩
      rw[Aj (by omega) (by omega),Aj (by omega) (by omega)]
      have hk:=hcl.1 hlt
      by_cases e1:p=j-1
      . rw[if_pos e1]
        by_cases e2:q=j
        . rw[if_neg (by omega),if_pos e2];omega
        . rw[if_neg h4,if_neg e2]
          exact ho j q (by omega) (by omega) h3 e2
      . rw[if_neg e1]
        by_cases e3:p=j
        . rw[if_pos e3,if_neg h4,if_neg (by omega)]
          exact ho (j-1) q (by omega) (by omega) h3 (by omega)
        . rw[if_neg e3,if_neg h4]
          by_cases e2:q=j
          . rw[if_pos e2];exact ho p (j-1) h1 (by omega) (by omega) (by omega)
          . rw[if_neg e2];exact ho p q h1 h2 h3 e2
    . right
      rw[if_neg (by simpa using hlt)]
      refine⟨_,rfl,zs,by rw[hw,jf (n:=1125899906842625) (by omega) (by omega)],hp,done fun p h1 h2=>?_⟩
      have hk:key l (zs.getD (j-1) 0)<=key l (zs.getD j 0):=by
       have:=fun h=>hlt (hcl.2 h)
       omega
      by_cases e:p=j-1
      . rw[e];exact hk
      . exact Int.le_trans (ho p (j-1) h1 (by omega) (by omega) (by omega)) hk
  . right
    rw[if_neg (show ¬ (j:Int)>(a:Int)by omega)]
    simp only[ae,aH,if_false]
    exact⟨_,rfl,zs,by rw[hw,jf (n:=1125899906842625) (by omega) (by omega)],hp,done fun p h1 h2=>by omega⟩) i ((i:Int),ys) ⟨i,ys,rfl,rfl,ha,Nat.le_refl _,Pm.refl _ _ _,fun p q h1 h2 h3 h4=>hs p q h1 h2 (by omega)⟩
 exact⟨zs,hr,h1,h2⟩
theorem xD{a b:Nat}{ys:List Int}(hall:nf l ys)(hab:a<=b)(hbl:b<=ys.length)(hb:ys.length<=PI):
 ∃zs,bU ys (a:Int) (b:Int) l=some zs/\Pm ys zs a b/\qi l zs a b:=by
 have hb':=hb
 rw[ku]at hb'
 unfold bU
 rw[jf (k:=a) (n:=1125899906842625) (by omega) (by omega)]
 refine e8 (fun k s=>∃(i:Nat) (zs:List Int),s=((i:Int),zs)/\k=b+1-i/\a+1<=i/\(i<=b\/i=a+1)/\Pm ys zs a b/\qi l zs a i)
  (fun zs=>Pm ys zs a b/\qi l zs a b) ?_ _ _ ⟨a+1,ys,rfl,rfl,Nat.le_refl _,.inr rfl,Pm.refl _ _ _,fun p q h1 h2 h3=>by omega⟩
 rintro k s ⟨i,zs,rfl,rfl,h1,h2,hp,hs⟩
 have hlen:=hp.len
 unfold dh
 by_cases hib:i<b
 . left
   rw[if_pos (show(i:Int)<(b:Int)by omega)]
   obtain⟨ws,hw,h3,h4⟩:=Qe (l:=l) (a:=a) (i:=i) (ys:=zs) (w:=((i:Int),zs)) rfl (hp.all hall) (by omega) (by omega) (by rw[ku];omega) hs
   exact⟨b+1-(i+1),_,hw,by omega,i+1,ws,rfl,rfl,by omega,.inl (by omega),hp.trans (h3.mono (Nat.le_refl _) (by omega)),h4⟩
 . right
   rw[if_neg (show ¬ (i:Int)<(b:Int)by omega)]
   exact⟨_,rfl,hp,fun p q h3 h4 h5=>hs p q h3 h4 (by omega)⟩
theorem sn{a b n:Nat}{ys:List Int}(hab:a+n<=b)(hbl:b+n<=ys.length)(hb:ys.length<=PI):
 ∃zs,bS ys (a:Int) (b:Int) (n:Int) l=some zs/\zs.Perm ys/\
  ∀p,zs.getD p 0=if a<=p/\p<a+n then ys.getD (p-a+b) 0 else if b<=p/\p<b+n then ys.getD (p-b+a) 0 else ys.getD p 0:=by
 rw[ku]at hb
 unfold bS
 refine e8 (fun k s=>∃(i:Nat) (zs:List Int),s=((i:Int),zs)/\k=n-i/\i<=n/\zs.Perm ys/\∀p,zs.getD p 0=if a<=p/\p<a+i then ys.getD (p-a+b) 0 else if b<=p/\p<b+i then ys.getD (p-b+a) 0 else ys.getD p 0)
  (fun zs:List Int=>zs.Perm ys/\∀p,zs.getD p 0=if a<=p/\p<a+n then ys.getD (p-a+b) 0 else if b<=p/\p<b+n then ys.getD (p-b+a) 0 else ys.getD p 0) ?_ _ _
  ⟨0,ys,rfl,rfl,Nat.zero_le _,.refl _,fun p=>by rw[if_neg (by omega),if_neg (by omega)]⟩
 rintro k s ⟨i,zs,rfl,rfl,hi,hp,hg⟩
 have hlen:=hp.length_eq
 unfold dw
 by_cases AZ:i<n
 . left
   have e1:i64.wrap ((a:Int)+(i:Int))=((a+i:Nat):Int):=by rw[jQ (by omega) (by omega)];omega
   have e2:i64.wrap ((b:Int)+(i:Int))=((b+i:Nat):Int):=by rw[jQ (by omega) (by omega)];omega
   rw[if_pos (show(i:Int)<(n:Int)by omega),e1,e2,dP (0:Int) (show b+i<zs.length by omega),dP (0:Int) (show a+i<zs.length by omega)]
   obtain⟨x,hx⟩:=mE (l:=zs.set (a+i) (zs.getD (b+i) 0)) (i:=((b+i:Nat):Int)) (k:=b+i) rfl (by simp;omega)
   simp only[ae,aG,hx,jf AZ (by omega)]
   refine⟨n-(i+1),_,rfl,by omega,i+1,sw zs (a+i) (b+i),rfl,rfl,by omega,(BZ (by omega) (by omega)).trans hp,fun p=>?_⟩
   rw[Aj (by omega) (by omega),hg (a+i),hg (b+i),hg p]
   repeat' split
   all_goals first|rfl|omega|(congr 1;omega)
 . right
   rw[if_neg (show ¬ (i:Int)<(n:Int)by omega)]
   have:i=n:=by omega
   subst this
   exact⟨_,rfl,hp,hg⟩
def DW(f:Nat->Int)(lo m hi p:Nat):Int:=if p<lo\/hi<=p then f p else if p<lo+(hi-m)then f (p+(m-lo))else f (p-(hi-m))
theorem Qy{a m b:Nat}{ys:List Int}(ham:a<m)(hmb:m<b)(hbl:b<=ys.length)(hb:ys.length<=PI):
 ∃zs,cg ys (a:Int) (m:Int) (b:Int) l=some zs/\zs.Perm ys/\∀p,zs.getD p 0=DW (fun p=>ys.getD p 0) a m b p:=by
 have hb':=hb
 rw[ku]at hb'
 unfold cg
 have e1:i64.wrap ((m:Int)-(a:Int))=((m-a:Nat):Int):=by rw[jQ (by omega) (by omega)];omega
 have e2:i64.wrap ((b:Int)-(m:Int))=((b-m:Nat):Int):=by rw[jQ (by omega) (by omega)];omega
 rw[e1,e2]
 obtain⟨r,hr,i,zs,rfl,hi1,hi2,hi3,hp,hg⟩:=e8 (f:=cS (m:Int) l)
  (fun k s=>∃(i j:Nat) (zs:List Int),s=((i:Int),(j:Int),zs)/\k=i+j/\0<i/\0<j/\i<=m-a/\j<=b-m/\zs.Perm ys/\∀p,DW (fun p=>ys.getD p 0) a m b p=DW (fun p=>zs.getD p 0) (m-i) m (m+j) p)
  (fun r=>∃(i:Nat) (zs:List Int),r=((i:Int),zs)/\0<i/\i<=m-a/\i<=b-m/\zs.Perm ys/\∀p,DW (fun p=>ys.getD p 0) a m b p=DW (fun p=>zs.getD p 0) (m-i) m (m+i) p) (by
  rintro k s ⟨i,j,zs,rfl,rfl,h1,h2,h3,h4,hp,hg⟩
  have hlen:=hp.length_eq
  have e3:i64.wrap ((m:Int)-(i:Int))=((m-i:Nat):Int):=by rw[jQ (by omega) (by omega)];omega
  unfold cS
  by_cases hij:i=j
  . right
    subst hij
    rw[if_neg (by simp)]
    exact⟨_,rfl,i,zs,rfl,h1,h3,h4,hp,hg⟩
  . left
    rw[if_pos (show((i:Int),(j:Int),zs).1≠((i:Int),(j:Int),zs).2.1 by simp;omega)]
    by_cases hgt:i>j
    . rw[if_pos (show((i:Int),(j:Int),zs).1>((i:Int),(j:Int),zs).2.1 by simp;omega)]
      obtain⟨ws,hw,hq,hz⟩:=sn (l:=l) (a:=m-i) (b:=m) (n:=j) (ys:=zs) (by omega) (by omega) (by rw[ku];omega)
      have e4:i64.wrap ((i:Int)-(j:Int))=((i-j:Nat):Int):=by rw[jQ (by omega) (by omega)];omega
      simp only[e3,hw,ae,e4]
      refine⟨i-j+j,_,rfl,by omega,i-j,j,ws,rfl,rfl,by omega,h2,by omega,h4,hq.trans hp,fun p=>?_⟩
      rw[hg p]
      unfold DW
      simp only[hz]
      repeat' split
      all_goals first|rfl|omega|(congr 1;omega)
    . rw[if_neg (show ¬ ((i:Int),(j:Int),zs).1>((i:Int),(j:Int),zs).2.1 by simp;omega)]
      have e5:i64.wrap (i64.wrap ((m:Int)+(j:Int))-(i:Int))=((m+j-i:Nat):Int):=by rw[jQ (x:=(m:Int)+(j:Int)) (by omega) (by omega),jQ (by omega) (by omega)];omega
      obtain⟨ws,hw,hq,hz⟩:=sn (l:=l) (a:=m-i) (b:=m+j-i) (n:=i) (ys:=zs) (by omega) (by omega) (by rw[ku];omega)
      have e4:i64.wrap ((j:Int)-(i:Int))=((j-i:Nat):Int):=by rw[jQ (by omega) (by omega)];omega
      simp only[e3,e5,hw,ae,e4]
      refine⟨i+(j-i),_,rfl,by omega,i,j-i,ws,rfl,rfl,h1,by omega,h3,by omega,hq.trans hp,fun p=>?_⟩
      rw[hg p]
      unfold DW
      simp only[hz]
      repeat' split
      all_goals first|rfl|omega|(congr 1;omega)) _ _
  ⟨m-a,b-m,ys,rfl,rfl,by omega,by omega,Nat.le_refl _,Nat.le_refl _,.refl _,fun p=>by rw[show m-(m-a)=a by omega,show m+(b-m)=b by omega]⟩
 rw[hr]
 have hlen:=hp.length_eq
 have e3:i64.wrap ((m:Int)-(i:Int))=((m-i:Nat):Int):=by rw[jQ (by omega) (by omega)];omega
 simp only[ae,e3]
 obtain⟨ws,hw,hq,hz⟩:=sn (l:=l) (a:=m-i) (b:=m) (n:=i) (ys:=zs) (by omega) (by omega) (by rw[ku];omega)
 rw[hw]
 refine⟨ws,rfl,hq.trans hp,fun p=>?_⟩
 rw[hz p,hg p]
 unfold DW
 repeat' split
 all_goals first|rfl|omega|(congr 1;omega)
end
end G
end
section
open IntKind(i64)
open G
namespace G
theorem Gm{f:Int×Int->Option ((Int×Int)⊕Int)}(T:Nat->Prop)(lo hi:Nat)(hle:lo<=hi)
 (hstep:∀i j:Nat,lo<=i->i<j->j<=hi->(T ((i+j)/2)/\f ((i:Int),(j:Int))=some (.inl ((((i+j)/2+1:Nat):Int),(j:Int))))\/(¬ T ((i+j)/2)/\f ((i:Int),(j:Int))=some (.inl ((i:Int),(((i+j)/2:Nat):Int)))))
 (hend:∀i:Nat,f ((i:Int),(i:Int))=some (.inr (i:Int))) (mono:∀p q,lo<=p->p<=q->q<hi->T q->T p):
 ∃s:Nat,Iter f ((lo:Int),(hi:Int))=some (s:Int)/\lo<=s/\s<=hi/\(∀p,lo<=p->p<s->T p)/\∀p,s<=p->p<hi->¬ T p:=by
 obtain⟨r,hr,s,rfl,h⟩:=e8 (f:=f)
  (fun k s=>∃i j:Nat,s=((i:Int),(j:Int))/\k=j-i/\lo<=i/\i<=j/\j<=hi/\(∀p,lo<=p->p<i->T p)/\∀p,j<=p->p<hi->¬ T p)
  (fun r=>∃s:Nat,r=(s:Int)/\lo<=s/\s<=hi/\(∀p,lo<=p->p<s->T p)/\∀p,s<=p->p<hi->¬ T p) (by
  rintro k s ⟨i,j,rfl,rfl,h1,h2,h3,h4,h5⟩
  by_cases hij:i<j
  . left
    rcases hstep i j h1 hij h3 with⟨ht,hf⟩|⟨ht,hf⟩
    . exact⟨j-((i+j)/2+1),_,hf,by omega,(i+j)/2+1,j,rfl,rfl,by omega,by omega,h3,fun p hp1 hp2=>mono p _ hp1 (by omega) (by omega) ht,h5⟩
    . exact⟨(i+j)/2-i,_,hf,by omega,i,(i+j)/2,rfl,rfl,h1,by omega,by omega,h4,fun p hp1 hp2 ht'=>ht (mono _ p (by omega) hp1 hp2 ht')⟩
  . right
    have:i=j:=by omega
    subst this
    exact⟨_,hend i,i,rfl,h1,h3,h4,h5⟩) _ _
  ⟨lo,hi,rfl,rfl,Nat.le_refl _,hle,Nat.le_refl _,fun p h1 h2=>by omega,fun p h1 h2=>by omega⟩
 exact⟨s,hr,h⟩
section
variable {l:List bH}
theorem jh{ys zs:List Int}{lo m hi:Nat}(hz:∀p,zs.getD p 0=DW (fun p=>ys.getD p 0) lo m hi p)(p:Nat):
 key l (zs.getD p 0)=if p<lo\/hi<=p then key l (ys.getD p 0)else if p<lo+(hi-m)then key l (ys.getD (p+(m-lo)) 0)else key l (ys.getD (p-(hi-m)) 0):=by
 rw[hz];unfold DW;split
 . rfl
 . split<;>rfl
theorem Ms{ys zs:List Int}{lo m hi:Nat}(hp:zs.Perm ys)(hz:∀p,zs.getD p 0=DW (fun p=>ys.getD p 0) lo m hi p):Pm ys zs lo hi:=⟨hp,fun p h=>by rw[hz];unfold DW;rw[if_pos h]⟩
theorem S3{i j:Nat}(h:i+j<=9223372036854775807):i64.wrap (fR .u64 (IntKind.u64.wrap (i64.wrap ((i:Int)+(j:Int)))) 1)=(((i+j)/2:Nat):Int):=Zl (by omega) h
theorem abG{ys:List Int}{a b:Nat}(hall:nf l ys)(hab:a+1<b)(hbl:b<=ys.length)(hb:ys.length<=PI)(hs:qi l ys (a+1) b):
 ∃zs,(∀fx,bO fx ys (a:Int) ((a+1:Nat):Int) (b:Int) l=some zs)/\Pm ys zs a b/\qi l zs a b:=by
 have hb':=hb
 rw[ku]at hb'
 obtain⟨s,hs1,h1,h2,h3,h4⟩:=Gm (f:=cn ys (a:Int) l) (fun p=>key l (ys.getD p 0)<key l (ys.getD a 0)) (a+1) b (by omega)
  (fun i j hi hij hj=>by
   obtain⟨c,hc,hcl⟩:=Gs (l:=l) (hall.get (p:=(i+j)/2) (by omega)) (hall.get (p:=a) (by omega));unfold cn;rw[if_pos (show((i:Int),(j:Int)).1<((i:Int),(j:Int)).2 by simp;omega)];simp only[S3 (show i+j<=9223372036854775807 by omega)];rw[dP (0:Int) (show(i+j)/2<ys.length by omega),dP (0:Int) (show a<ys.length by omega)];simp only[ae,hc];by_cases hlt:c<0
   . left;rw[if_pos hlt,jf (n:=1125899906842625) (by omega) (by omega)];exact⟨hcl.1 hlt,rfl⟩
   . right;rw[if_neg hlt];exact⟨fun h=>hlt (hcl.2 h),rfl⟩)
  (fun i=>by unfold cn;rw[if_neg (by simp)])
  (fun p q hp hpq hq ht=>by
   by_cases e:p=q
   . subst e;exact ht
   . exact Int.lt_of_le_of_lt (hs p q hp (by omega) hq) ht)
 obtain⟨r,hr,zs,rfl,hp,hz⟩:=e8 (f:=cN (s:Int))
  (fun k st=>∃(i:Nat) (zs:List Int),st=((i:Int),zs)/\k=s-1-i/\a<=i/\i<=s-1/\zs.Perm ys/\∀p,zs.getD p 0=DW (fun p=>ys.getD p 0) a (a+1) (i+1) p)
  (fun r=>∃zs:List Int,r=.inr zs/\zs.Perm ys/\∀p,zs.getD p 0=DW (fun p=>ys.getD p 0) a (a+1) s p) (by
   rintro k st ⟨i,zs,rfl,rfl,hi1,hi2,hp,hz⟩;have hlen:=hp.length_eq;unfold cN;have e1:i64.wrap ((s:Int)-1)=((s-1:Nat):Int):=by rw[jQ (by omega) (by omega)];omega
   rw[e1];by_cases hlt:i<s-1
   . left;have e2:i64.wrap ((i:Int)+1)=((i+1:Nat):Int):=jf (n:=1125899906842625) (by omega) (by omega);rw[if_pos (show((i:Int),zs).1<((s-1:Nat):Int)by simp;omega)];obtain⟨x,hx⟩:=mE (l:=zs.set i (zs.getD (i+1) 0)) (i:=((i+1:Nat):Int)) (k:=i+1) rfl (by simp;omega);simp only[e2,dP (0:Int) (show i+1<zs.length by omega),dP (0:Int) (show i<zs.length by omega),ae,aG,hx];refine⟨s-1-(i+1),_,rfl,by omega,i+1,sw zs i (i+1),rfl,rfl,by omega,by omega,(BZ (by omega) (by omega)).trans hp,fun p=>?_⟩;rw[Aj (by omega) (by omega),hz i,hz (i+1),hz p];unfold DW
     repeat' split
     all_goals first|rfl|omega|(congr 1;omega)
   . right;rw[if_neg (show ¬ ((i:Int),zs).1<((s-1:Nat):Int)by simp;omega)];exact⟨_,rfl,zs,rfl,hp,by rw[show s=i+1 by omega];exact hz⟩) _ _
  ⟨a,ys,rfl,rfl,Nat.le_refl _,by omega,.refl _,fun p=>by unfold DW;(repeat' split);all_goals (first|rfl|omega|(congr 1;omega))⟩
 refine⟨zs,fun fx=>?_,(Ms hp hz).mono (Nat.le_refl _) h2,fun p q h5 h6 h7=>?_⟩
 . unfold bO
   rw[if_pos (by rw[jQ (by omega) (by omega)];omega),hs1]
   simp only[ae,hr,Ft]
 . rw[jh hz,jh hz]
   by_cases c1:p<a+(s-(a+1))
   . rw[if_neg (by omega),if_pos c1]
     by_cases c2:q<a+(s-(a+1))
     . rw[if_neg (by omega),if_pos c2];exact hs _ _ (by omega) (by omega) (by omega)
     . by_cases c3:s<=q
       . rw[if_pos (.inr c3)];exact hs _ _ (by omega) (by omega) h7
       . rw[if_neg (by omega),if_neg c2]
         have:=h3 (p+(a+1-a)) (by omega) (by omega)
         rw[show q-(s-(a+1))=a by omega];exact Int.le_of_lt this
   . by_cases c3:s<=p
     . rw[if_pos (.inr c3),if_pos (.inr (by omega))];exact hs _ _ (by omega) h6 h7
     . rw[if_neg (by omega),if_neg c1,if_pos (.inr (by omega)),show p-(s-(a+1))=a by omega]
       have:=h4 q (by omega) h7
       omega
theorem abH{ys:List Int}{a m:Nat}(hall:nf l ys)(ham:a+1<m)(hbl:m+1<=ys.length)(hb:ys.length<=PI)(hs:qi l ys a m):
 ∃zs,(∀fx,bO fx ys (a:Int) (m:Int) ((m+1:Nat):Int) l=some zs)/\Pm ys zs a (m+1)/\qi l zs a (m+1):=by
 have hb':=hb
 rw[ku]at hb'
 obtain⟨s,hs1,h1,h2,h3,h4⟩:=Gm (f:=cp ys (m:Int) l) (fun p=>¬ key l (ys.getD m 0)<key l (ys.getD p 0)) a m (by omega)
  (fun i j hi hij hj=>by
   obtain⟨c,hc,hcl⟩:=Gs (l:=l) (hall.get (p:=m) (by omega)) (hall.get (p:=(i+j)/2) (by omega));unfold cp;rw[if_pos (show((i:Int),(j:Int)).1<((i:Int),(j:Int)).2 by simp;omega)];simp only[S3 (show i+j<=9223372036854775807 by omega)];rw[dP (0:Int) (show(i+j)/2<ys.length by omega),dP (0:Int) (show m<ys.length by omega)];simp only[ae,hc];by_cases hlt:c<0
   . right;rw[if_neg (by simpa using hlt)];exact⟨fun h=>h (hcl.1 hlt),rfl⟩
   . left;rw[if_pos (by simpa using hlt),jf (n:=1125899906842625) (by omega) (by omega)];exact⟨fun h=>hlt (hcl.2 h),rfl⟩)
  (fun i=>by unfold cp;rw[if_neg (by simp)])
  (fun p q hp hpq hq ht=>by
   by_cases e:p=q
   . subst e;exact ht
   . have:=hs p q hp (by omega) hq;omega)
 obtain⟨r,hr,zs,rfl,hp,hz⟩:=e8 (f:=cR (s:Int))
  (fun k st=>∃(i:Nat) (zs:List Int),st=((i:Int),zs)/\k=i/\s<=i/\i<=m/\zs.Perm ys/\∀p,zs.getD p 0=DW (fun p=>ys.getD p 0) i m (m+1) p)
  (fun r=>∃zs:List Int,r=.inr zs/\zs.Perm ys/\∀p,zs.getD p 0=DW (fun p=>ys.getD p 0) s m (m+1) p) (by
   rintro k st ⟨i,zs,rfl,rfl,hi1,hi2,hp,hz⟩;have hlen:=hp.length_eq;unfold cR;by_cases hlt:s<k
   . left;have e2:i64.wrap ((k:Int)-1)=((k-1:Nat):Int):=by rw[jQ (by omega) (by omega)];omega
     rw[if_pos (show((k:Int),zs).1>(s:Int)by simp;omega)];obtain⟨x,hx⟩:=mE (l:=zs.set k (zs.getD (k-1) 0)) (i:=((k-1:Nat):Int)) (k:=k-1) rfl (by simp;omega);simp only[e2,dP (0:Int) (show k-1<zs.length by omega),dP (0:Int) (show k<zs.length by omega),ae,aG,hx];refine⟨k-1,_,rfl,by omega,k-1,sw zs k (k-1),rfl,rfl,by omega,by omega,(BZ (by omega) (by omega)).trans hp,fun p=>?_⟩;rw[Aj (by omega) (by omega),hz k,hz (k-1),hz p];unfold DW
     repeat' split
     all_goals first|rfl|omega|(congr 1;omega)
   . right;rw[if_neg (show ¬ ((k:Int),zs).1>(s:Int)by simp;omega)];exact⟨_,rfl,zs,rfl,hp,by rw[show s=k by omega];exact hz⟩) _ _
  ⟨m,ys,rfl,rfl,h2,Nat.le_refl _,.refl _,fun p=>by unfold DW;(repeat' split);all_goals (first|rfl|omega|(congr 1;omega))⟩
 refine⟨zs,fun fx=>?_,(Ms hp hz).mono h1 (Nat.le_refl _),fun p q h5 h6 h7=>?_⟩
 . unfold bO
   rw[if_neg (by rw[jQ (by omega) (by omega)];omega)]
   simp only[ae,fX]
   rw[if_pos (by rw[jQ (by omega) (by omega)];omega),hs1]
   simp only[ae,hr,Ft]
 . rw[jh hz,jh hz]
   by_cases c1:p<s
   . rw[if_pos (.inl c1)]
     by_cases c2:q<s
     . rw[if_pos (.inl c2)];exact hs _ _ h5 h6 (by omega)
     . rw[if_neg (by omega)]
       by_cases c3:q<s+(m+1-m)
       . rw[if_pos c3,show q+(m-s)=m by omega]
         have:=h3 p h5 c1
         omega
       . rw[if_neg c3];exact hs _ _ h5 (by omega) (by omega)
   . rw[if_neg (by omega),if_neg (show ¬ (q<s\/m+1<=q)by omega),if_neg (show ¬ q<s+(m+1-m)by omega)]
     by_cases c3:p<s+(m+1-m)
     . rw[if_pos c3,show p+(m-s)=m by omega]
       have:=h4 (q-(m+1-m)) (by omega) (by omega)
       omega
     . rw[if_neg c3];exact hs _ _ (by omega) (by omega) (by omega)
theorem abI{ys:List Int}{a m b:Nat}(hall:nf l ys)(ham:a+1<m)(hmb:m+1<b)(hbl:b<=ys.length)(hb:ys.length<=PI)(hs1:qi l ys a m)(hs2:qi l ys m b):
 ∃(ws:List Int) (s e c:Nat),(∀fx,bO fx ys (a:Int) (m:Int) (b:Int) l=
  (if a<s/\s<c then fx (ws,(a:Int),(s:Int),(c:Int),l)else some ws).bind fun v=>if c<e/\e<b then fx (v,(c:Int),(e:Int),(b:Int),l)else some v)/\
  a<c/\c<b/\a<=s/\s<=c/\c<=e/\e<=b/\Pm ys ws a b/\qi l ws a s/\qi l ws s c/\qi l ws c e/\qi l ws e b/\∀p q,a<=p->p<c->c<=q->q<b->key l (ws.getD p 0)<=key l (ws.getD q 0):=by
 have hb':=hb
 rw[ku]at hb'
 obtain⟨c,hc⟩:∃c,c=(a+b)/2:=⟨_,rfl⟩
 have eN:i64.wrap ((c:Int)+(m:Int))=((c+m:Nat):Int):=by rw[jQ (by omega) (by omega)];omega
 obtain⟨lo,hi,hlo,hv3⟩:∃lo hi:Nat,((m<=c/\lo=a/\hi=m)\/(c<m/\lo=c+m-b/\hi=c))/\
  (if(m:Int)>(c:Int)then some ((i64.wrap (((c+m:Nat):Int)-(b:Int))),(c:Int))else some ((a:Int),(m:Int)))=some ((lo:Int),(hi:Int)):=by
  by_cases h:c<m
  . refine⟨c+m-b,c,.inr ⟨h,rfl,rfl⟩,?_⟩
    rw[if_pos (by omega),jQ (by omega) (by omega)]
    rw[show((c+m:Nat):Int)-(b:Int)=((c+m-b:Nat):Int)by omega]
  . exact⟨a,m,.inl ⟨by omega,rfl,rfl⟩,by rw[if_neg (by omega)]⟩
 obtain⟨s,hsr,h1,h2,h3,h4⟩:=Gm (f:=cu ys (a:Int) (m:Int) (b:Int) l) (fun p=>¬ key l (ys.getD (c+m-1-p) 0)<key l (ys.getD p 0)) lo hi (by omega)
  (fun i j hi1 hij hj=>by
   obtain⟨d,hd⟩:∃d,d=(i+j)/2:=⟨_,rfl⟩;obtain⟨v,hv,hvl⟩:=Gs (l:=l) (hall.get (p:=c+m-1-d) (by omega)) (hall.get (p:=d) (by omega));unfold cu;rw[if_pos (show((i:Int),(j:Int)).1<((i:Int),(j:Int)).2 by simp;omega)];simp only[S3 (show i+j<=9223372036854775807 by omega),S3 (show a+b<=9223372036854775807 by omega),<- hc,<- hd,eN];have e1:i64.wrap (i64.wrap (((c+m:Nat):Int)-1)-(d:Int))=((c+m-1-d:Nat):Int):=by rw[jQ (x:=((c+m:Nat):Int)-1) (by omega) (by omega),jQ (by omega) (by omega)];omega
   rw[e1,dP (0:Int) (show c+m-1-d<ys.length by omega),dP (0:Int) (show d<ys.length by omega)];simp only[ae,hv];by_cases hlt:v<0
   . right;rw[if_neg (by simpa using hlt)];exact⟨fun h=>h (hvl.1 hlt),rfl⟩
   . left;rw[if_pos (by simpa using hlt),jf (n:=1125899906842625) (by omega) (by omega)];exact⟨fun h=>hlt (hvl.2 h),rfl⟩)
  (fun i=>by unfold cu;rw[if_neg (by simp)])
  (fun p q hp hpq hq ht=>by
   by_cases e:p=q
   . subst e;exact ht
   . have k1:=hs1 p q (by omega) (by omega) (by omega);have k2:=hs2 (c+m-1-q) (c+m-1-p) (by omega) (by omega) (by omega);omega)
 obtain⟨e,he⟩:∃e,e=c+m-s:=⟨_,rfl⟩
 have eE:i64.wrap (((c+m:Nat):Int)-(s:Int))=(e:Int):=by rw[jQ (by omega) (by omega)];omega
 obtain⟨ws,hw,hp,hz⟩:∃ws:List Int,((if(s:Int)<(m:Int)then some (decide ((m:Int)<(e:Int)))else some false).bind fun v5=>
  if v5=true then(cg ys (s:Int) (m:Int) (e:Int) l).bind fun y3=>some y3 else some ys)=some ws/\ws.Perm ys/\∀p,ws.getD p 0=DW (fun p=>ys.getD p 0) s m e p:=by
  by_cases hsm:s<m
  . rw[if_pos (by omega)]
    by_cases hme:m<e
    . obtain⟨ws,h5,h6,h7⟩:=Qy (l:=l) (a:=s) (m:=m) (b:=e) (ys:=ys) hsm hme (by omega) hb
      simp only[ae,show((m:Int)<(e:Int))=True by simp;omega,decide_true,if_true,h5]
      exact⟨ws,rfl,h6,h7⟩
    . simp only[ae,show((m:Int)<(e:Int))=False by simp;omega,decide_false,aH,if_false]
      refine⟨ys,rfl,.refl _,fun p=>?_⟩
      unfold DW
      repeat' split
      all_goals first|rfl|omega|(congr 1;omega)
  . rw[if_neg (by omega)]
    refine⟨ys,rfl,.refl _,fun p=>?_⟩
    unfold DW
    repeat' split
    all_goals first|rfl|omega|(congr 1;omega)
 refine⟨ws,s,e,c,fun fx=>?_,by omega,by omega,by omega,by omega,by omega,by omega,(Ms hp hz).mono (by omega) (by omega),?_,?_,?_,?_,?_⟩
 . unfold bO
   rw[if_neg (by rw[jQ (by omega) (by omega)];omega)]
   simp only[ae,fX]
   rw[if_neg (by rw[jQ (by omega) (by omega)];omega)]
   simp only[ae,fX,S3 (show a+b<=9223372036854775807 by omega),<- hc,eN,hv3,hsr,eE]
   rw[<- aD,hw]
   simp only[ae]
   have k1:(if(a:Int)<(s:Int)then some (decide ((s:Int)<(c:Int)))else some false)=some (decide (a<s/\s<c)):=by
    by_cases h5:a<s
    . rw[if_pos (by omega)];congr 1;simp only[bF];omega
    . rw[if_neg (by omega)];congr 1;simp;omega
   have k2:(if(c:Int)<(e:Int)then some (decide ((e:Int)<(b:Int)))else some false)=some (decide (c<e/\e<b)):=by
    by_cases h5:c<e
    . rw[if_pos (by omega)];congr 1;simp only[bF];omega
    . rw[if_neg (by omega)];congr 1;simp;omega
   simp only[k1,k2,ae,aJ,Np]
 . exact fun p q h5 h6 h7=>by rw[jh hz,jh hz,if_pos (.inl (by omega)),if_pos (.inl h7)];exact hs1 p q h5 h6 (by omega)
 . exact fun p q h5 h6 h7=>by
    rw[jh hz,jh hz,if_neg (by omega),if_neg (show ¬ (q<s\/e<=q)by omega),if_pos (by omega),if_pos (by omega)];exact hs2 _ _ (by omega) (by omega) (by omega)
 . exact fun p q h5 h6 h7=>by
    rw[jh hz,jh hz,if_neg (by omega),if_neg (show ¬ (q<s\/e<=q)by omega),if_neg (by omega),if_neg (by omega)];exact hs1 _ _ (by omega) (by omega) (by omega)
 . exact fun p q h5 h6 h7=>by rw[jh hz,jh hz,if_pos (.inr h5),if_pos (.inr (by omega))];exact hs2 p q (by omega) h6 h7
 . intro p q h5 h6 h7 h8
   rw[jh hz,jh hz]
   by_cases c1:p<s
   . rw[if_pos (.inl c1)]
     by_cases c2:q<e
     . rw[if_neg (by omega),if_neg (by omega)];exact hs1 _ _ h5 (by omega) (by omega)
     . rw[if_pos (.inr (by omega))]
       have k1:=h3 (s-1) (by omega) (by omega)
       rw[show c+m-1-(s-1)=e by omega]at k1
       have k2:key l (ys.getD p 0)<=key l (ys.getD (s-1) 0):=by
        by_cases ee:p=s-1
        . rw[ee];exact Int.le_refl _
        . exact hs1 _ _ h5 (by omega) (by omega)
       have k3:key l (ys.getD e 0)<=key l (ys.getD q 0):=by
        by_cases ee:e=q
        . rw[ee];exact Int.le_refl _
        . exact hs2 _ _ (by omega) (by omega) h8
       omega
   . rw[if_neg (by omega),if_pos (by omega)]
     by_cases c2:q<e
     . rw[if_neg (by omega),if_neg (by omega)]
       have k1:=h4 s (Nat.le_refl _) (by omega)
       rw[show c+m-1-s=e-1 by omega]at k1
       have k2:key l (ys.getD (p+(m-s)) 0)<=key l (ys.getD (e-1) 0):=by
        by_cases ee:p+(m-s)=e-1
        . rw[ee];exact Int.le_refl _
        . exact hs2 _ _ (by omega) (by omega) (by omega)
       have k3:key l (ys.getD s 0)<=key l (ys.getD (q-(e-m)) 0):=by
        by_cases ee:s=q-(e-m)
        . rw[<- ee];exact Int.le_refl _
        . exact hs1 _ _ (by omega) (by omega) (by omega)
       omega
     . rw[if_pos (.inr (by omega))];exact hs2 _ _ (by omega) (by omega) h8
theorem qi.join{zs:List Int}{a c b:Nat}(h1:qi l zs a c)(h2:qi l zs c b)(h3:∀p q,a<=p->p<c->c<=q->q<b->key l (zs.getD p 0)<=key l (zs.getD q 0)):qi l zs a b:=fun p q h4 h5 h6=>by
 by_cases hq:q<c
 . exact h1 p q h4 h5 hq
 . by_cases hp:p<c
   . exact h3 p q h4 hp (by omega) h6
   . exact h2 p q (by omega) h5 h6
theorem Pm.any{xs zs:List Int}{lo hi:Nat}(h:Pm xs zs lo hi)(hl:hi<=xs.length){p:Nat}(h1:lo<=p)(h2:p<hi):∃q,lo<=q/\q<hi/\zs.getD p 0=xs.getD q 0:=by
 have hlen:=h.len;have split:∀ws:List Int,ws.length=xs.length->ws=ws.take lo++((ws.drop lo).take (hi-lo)++ws.drop hi):=fun ws hw=>by
  have:=List.take_append_drop (hi-lo) (ws.drop lo);rw[List.drop_drop,show lo+(hi-lo)=hi by omega]at this;rw[this,List.take_append_drop]
 have e1:zs.take lo=xs.take lo:=List.ext_getElem? fun i=>by
  simp only[List.getElem?_take];split
  . have:=h.out i (.inl (by assumption));simp only[List.getD_eq_getElem?_getD]at this;rw[List.getElem?_eq_getElem (by omega),List.getElem?_eq_getElem (by omega)]at this ⊢;simpa using this
  . rfl
 have e2:zs.drop hi=xs.drop hi:=List.ext_getElem? fun i=>by
  simp only[List.getElem?_drop];have:=h.out (hi+i) (.inr (by omega));simp only[List.getD_eq_getElem?_getD]at this;by_cases hi':hi+i<xs.length
  . rw[List.getElem?_eq_getElem (by omega),List.getElem?_eq_getElem hi']at this ⊢;simpa using this
  . rw[List.getElem?_eq_none (by omega),List.getElem?_eq_none (by omega)]
 have hp:=h.perm;rw[split zs hlen,split xs rfl,e1,e2]at hp;have hm:=(List.perm_append_right_iff _).1 ((List.perm_append_left_iff _).1 hp);have hmem:zs.getD p 0∈(zs.drop lo).take (hi-lo):=by
  have:zs.getD p 0=zs[p]:=by simp[show p<zs.length by omega]
  rw[this];refine List.mem_iff_getElem?.2 ⟨p-lo,?_⟩;rw[List.getElem?_take,if_pos (by omega),List.getElem?_drop,show lo+(p-lo)=p by omega,List.getElem?_eq_getElem (by omega)]
 obtain⟨i,hi'⟩:=List.mem_iff_getElem?.1 (hm.mem_iff.1 hmem);rw[List.getElem?_take]at hi';split at hi'
 . rw[List.getElem?_drop]at hi';refine⟨lo+i,by omega,by omega,?_⟩;rw[List.getD_eq_getElem?_getD (l:=xs),hi'];rfl
 . cases hi'
theorem Uu{ys:List Int}{a m b:Nat}(hall:nf l ys)(ham:a<m)(hmb:m<b)(hbl:b<=ys.length)(hb:ys.length<=PI)(hs1:qi l ys a m)(hs2:qi l ys m b):
 ∃zs,b9 ys (a:Int) (m:Int) (b:Int) l=some zs/\Pm ys zs a b/\qi l zs a b:=by
 unfold b9
 obtain⟨r,hr,a',b',ha',hb2,hp,hs⟩:=Pz (F:=bZ)
  (fun k x=>∃(ys:List Int) (a m b:Nat),x=(ys,(a:Int),(m:Int),(b:Int),l)/\k=b-a/\a<m/\m<b/\b<=ys.length/\ys.length<=PI/\nf l ys/\qi l ys a m/\qi l ys m b)
  (fun x r=>∃a b:Nat,x.2.1=(a:Int)/\x.2.2.2.1=(b:Int)/\Pm x.1 r a b/\qi l r a b) (by
  rintro k x ⟨ys,a,m,b,rfl,rfl,ham,hmb,hbl,hb,hall,hs1,hs2⟩ f g hfg
  unfold bZ
  by_cases c1:m=a+1
  . subst c1
    obtain⟨zs,h1,h2,h3⟩:=abG hall hmb hbl hb hs2
    exact⟨zs,h1 f,h1 g,a,b,rfl,rfl,h2,h3⟩
  . by_cases c2:b=m+1
    . subst c2
      obtain⟨zs,h1,h2,h3⟩:=abH hall (by omega) hbl hb hs1
      exact⟨zs,h1 f,h1 g,a,m+1,rfl,rfl,h2,h3⟩
    . obtain⟨ws,s,e,c,h1,k1,k2,k3,k4,k5,k6,hp,t1,t2,t3,t4,hx⟩:=abI hall (by omega) (by omega) hbl hb hs1 hs2
      have hlen:=hp.len
      simp only[h1]
      obtain⟨us,hf,hg,hpu,hsu⟩:∃us,(if a<s/\s<c then f (ws,(a:Int),(s:Int),(c:Int),l)else some ws)=some us/\(if a<s/\s<c then g (ws,(a:Int),(s:Int),(c:Int),l)else some ws)=some us/\Pm ws us a c/\qi l us a c:=by
       by_cases h2:a<s/\s<c
       . obtain⟨r,hr1,hr2,a',b',q1,q2,q3,q4⟩:=hfg (c-a) (ws,(a:Int),(s:Int),(c:Int),l) (by omega) ⟨ws,a,s,c,rfl,rfl,h2.1,h2.2,by omega,by omega,hp.all hall,t1,t2⟩;simp only at q1 q2 q3;have e1:a'=a:=by omega
         have e2:b'=c:=by omega
         subst e1 e2;exact⟨r,by rw[if_pos h2];exact hr1,by rw[if_pos h2];exact hr2,q3,q4⟩
       . refine⟨ws,by rw[if_neg h2],by rw[if_neg h2],Pm.refl _ _ _,?_⟩;by_cases h3:s=a
         . rw[h3]at t2;exact t2
         . rw[show c=s by omega];exact t1
      have hlu:=hpu.len
      obtain⟨vs,hf2,hg2,hpv,hsv⟩:∃vs,(if c<e/\e<b then f (us,(c:Int),(e:Int),(b:Int),l)else some us)=some vs/\(if c<e/\e<b then g (us,(c:Int),(e:Int),(b:Int),l)else some us)=some vs/\Pm us vs c b/\qi l vs c b:=by
       by_cases h2:c<e/\e<b
       . obtain⟨r,hr1,hr2,a',b',q1,q2,q3,q4⟩:=hfg (b-c) (us,(c:Int),(e:Int),(b:Int),l) (by omega) ⟨us,c,e,b,rfl,rfl,h2.1,h2.2,by omega,by omega,hpu.all (hp.all hall),t3.lF hpu (.inr (Nat.le_refl _)),t4.lF hpu (.inr (by omega))⟩;simp only at q1 q2 q3;have e1:a'=c:=by omega
         have e2:b'=b:=by omega
         subst e1 e2;exact⟨r,by rw[if_pos h2];exact hr1,by rw[if_pos h2];exact hr2,q3,q4⟩
       . refine⟨us,by rw[if_neg h2],by rw[if_neg h2],Pm.refl _ _ _,?_⟩;by_cases h3:e=c
         . rw[h3]at t4;exact t4.lF hpu (.inr (Nat.le_refl _))
         . rw[show b=e by omega];exact t3.lF hpu (.inr (Nat.le_refl _))
      refine⟨vs,by rw[hf];exact hf2,by rw[hg];exact hg2,a,b,rfl,rfl,(hp.trans (hpu.mono (Nat.le_refl _) (by omega))).trans (hpv.mono (by omega) (Nat.le_refl _)),(hsu.lF hpv (.inl (Nat.le_refl _))).join hsv fun p q h2 h3 h4 h5=>?_⟩
      rw[hpv.out p (.inl h3)]
      obtain⟨p',hp1,hp2,e1⟩:=hpu.any (by omega) h2 h3
      obtain⟨q',hq1,hq2,e2⟩:=hpv.any (by omega) h4 h5
      rw[e1,e2,hpu.out q' (.inr hq1)]
      exact hx p' q' hp1 hp2 hq1 hq2) (k:=b-a) (x:=(ys,(a:Int),(m:Int),(b:Int),l)) ⟨ys,a,m,b,rfl,rfl,ham,hmb,hbl,hb,hall,hs1,hs2⟩
 simp only at ha' hb2 hp
 have e1:a'=a:=by omega
 have e2:b'=b:=by omega
 subst e1 e2
 exact⟨r,hr,hp,hs⟩
end
end G
end
section
open IntKind(i64)
open G
namespace G
section
variable {l:List bH}
def Iy(l:List bH)(zs:List Int)(s lo n:Nat):Prop:=∀k,qi l zs (lo+k*s) (min (lo+k*s+s) n)
theorem Iy.next{zs:List Int}{s lo n:Nat}(h:Iy l zs s lo n)(j:Nat):Iy l zs s (lo+j*s) n:=fun k=>by
 have:=h (j+k);rw[aN]at this;rwa[show lo+j*s+k*s=lo+(j*s+k*s)by omega]
theorem Iy.lF{xs ys:List Int}{s lo n a b:Nat}(h:Iy l xs s lo n)(hp:Pm xs ys a b)(hb:b<=lo):Iy l ys s lo n:=fun k=>(h k).lF hp (.inr (by omega))
theorem Iy.first{zs:List Int}{s lo n:Nat}(h:Iy l zs s lo n):qi l zs lo (min (lo+s) n):=by have:=h 0;simpa using this
theorem Iy.second{zs:List Int}{s lo n:Nat}(h:Iy l zs s lo n):qi l zs (lo+s) (min (lo+s+s) n):=by have:=h 1;simpa using this
def EE(l:List bH)(zs:List Int)(s hi:Nat):Prop:=∀k,k*s+s<=hi->qi l zs (k*s) (k*s+s)
theorem EE.lF{xs ys:List Int}{s hi a b:Nat}(h:EE l xs s hi)(hp:Pm xs ys a b)(ha:hi<=a):EE l ys s hi:=fun k hk=>(h k hk).lF hp (.inl (by omega))
theorem JK{n s:Nat}{ys:List Int}{w:Int×List Int}(hw:w.1=(s:Int))(hall:nf l ys)(hn:n=ys.length)(hb:ys.length<=PI)(hs:0<s)(hsn:s<n)(hB:Iy l ys s 0 n):
 ∃(a:Nat) (zs:List Int),Iter (cy (n:Int) l w) (0,i64.wrap (2*w.1),ys)=some ((a:Int),zs)/\Pm ys zs 0 n/\(∃t,a=t*(2*s))/\a<=n/\n<a+2*s/\EE l zs (2*s) a/\Iy l zs s a n:=by
 have hb':=hb
 rw[ku]at hb'
 have e2:i64.wrap (2*w.1)=((2*s:Nat):Int):=by rw[hw,jQ (by omega) (by omega)];omega
 obtain⟨r,hr,a,zs,rfl,h⟩:=e8 (f:=cy (n:Int) l w)
  (fun k st=>∃(a:Nat) (zs:List Int),st=((a:Int),((a+2*s:Nat):Int),zs)/\k=n-a/\Pm ys zs 0 n/\(∃t,a=t*(2*s))/\a<=n/\EE l zs (2*s) a/\Iy l zs s a n)
  (fun r=>∃(a:Nat) (zs:List Int),r=((a:Int),zs)/\Pm ys zs 0 n/\(∃t,a=t*(2*s))/\a<=n/\n<a+2*s/\EE l zs (2*s) a/\Iy l zs s a n) (by
   rintro k st ⟨a,zs,rfl,rfl,hp,⟨t,ht⟩,ha,hu,hbk⟩;have hlen:=hp.len;unfold cy;by_cases hlt:a+2*s<=n
   . left;rw[if_pos (show((a:Int),((a+2*s:Nat):Int),zs).2.1<=(n:Int)by simp;omega)];have e3:i64.wrap ((a:Int)+w.1)=((a+s:Nat):Int):=by rw[hw,jQ (by omega) (by omega)];omega
     have e4:i64.wrap (((a+2*s:Nat):Int)+i64.wrap (2*w.1))=((a+2*s+2*s:Nat):Int):=by rw[e2,jQ (by omega) (by omega)];omega
     have f1:=hbk.first;have f2:=hbk.second;rw[show min (a+s) n=a+s by omega]at f1;rw[show min (a+s+s) n=a+2*s by omega]at f2;obtain⟨ws,h1,h2,h3⟩:=Uu (l:=l) (ys:=zs) (a:=a) (m:=a+s) (b:=a+2*s) (hp.all hall) (by omega) (by omega) (by omega) (by omega) f1 f2;simp only[e3,h1,ae,e4];refine⟨n-(a+2*s),_,rfl,by omega,a+2*s,ws,rfl,rfl,hp.trans (h2.mono (Nat.zero_le _) hlt),⟨t+1,by rw[aN];omega⟩,hlt,fun k hk=>?_,?_⟩
     . by_cases hk2:k*(2*s)+2*s<=a
       . exact(hu.lF h2 (Nat.le_refl _)) k hk2
       . have:k=t:=by
          rcases Nat.lt_trichotomy k t with h|h|h
          . have h':=Nat.mul_le_mul_right (2*s) (show k+1<=t from h);rw[aN]at h';omega
          . exact h
          . have h':=Nat.mul_le_mul_right (2*s) (show t+1<=k from h);rw[aN]at h';omega
         subst this;rw[<- ht];exact h3
     . have:=(hbk.next 2).lF h2 (by omega);exact this
   . right;rw[if_neg (show ¬ ((a:Int),((a+2*s:Nat):Int),zs).2.1<=(n:Int)by simp;omega)];exact⟨_,rfl,a,zs,rfl,hp,⟨t,ht⟩,ha,by omega,hu,hbk⟩) n (0,i64.wrap (2*w.1),ys)
  ⟨0,ys,by rw[e2];simp,rfl,Pm.refl _ _ _,⟨0,by simp⟩,Nat.zero_le _,fun k hk=>by omega,hB⟩
 exact⟨a,zs,hr,h⟩
theorem KZ{zs:List Int}{s a n:Nat}(hs:0<s)(ht:∃t,a=t*s)(hu:EE l zs s a)(hl:qi l zs a (min (a+s) n))(hn:n<=a+s):Iy l zs s 0 n:=by
 obtain⟨t,rfl⟩:=ht;intro k;rw[aL];by_cases h1:k<t
 . have:(k+1)*s<=t*s:=Nat.mul_le_mul_right s h1;rw[aN]at this;have h2:=hu k (by omega);exact fun p q h3 h4 h5=>h2 p q h3 h4 (by omega)
 . by_cases h2:k=t
   . subst h2;exact hl
   . have:(t+1)*s<=k*s:=Nat.mul_le_mul_right s (by omega);rw[aN]at this;exact fun p q h3 h4 h5=>by omega
theorem G3{n:Nat}{ys:List Int}(hall:nf l ys)(hn:n=ys.length)(hb:ys.length<=PI):
 ∃(a:Nat) (zs:List Int),Iter (cx (n:Int) l) (0,20,ys)=some ((a:Int),zs)/\Pm ys zs 0 n/\(∃t,a=t*20)/\a<=n/\n<a+20/\EE l zs 20 a:=by
 have hb':=hb
 rw[ku]at hb'
 obtain⟨r,hr,a,zs,rfl,h⟩:=e8 (f:=cx (n:Int) l)
  (fun k st=>∃(a:Nat) (zs:List Int),st=((a:Int),((a+20:Nat):Int),zs)/\k=n-a/\Pm ys zs 0 n/\(∃t,a=t*20)/\a<=n/\EE l zs 20 a)
  (fun r=>∃(a:Nat) (zs:List Int),r=((a:Int),zs)/\Pm ys zs 0 n/\(∃t,a=t*20)/\a<=n/\n<a+20/\EE l zs 20 a) (by
   rintro k st ⟨a,zs,rfl,rfl,hp,⟨t,ht⟩,ha,hu⟩;have hlen:=hp.len;unfold cx;by_cases hlt:a+20<=n
   . left;rw[if_pos (show((a:Int),((a+20:Nat):Int),zs).2.1<=(n:Int)by simp;omega)];have e4:i64.wrap (((a+20:Nat):Int)+20)=((a+20+20:Nat):Int):=by rw[jQ (by omega) (by omega)];omega
     obtain⟨ws,h1,h2,h3⟩:=xD (l:=l) (ys:=zs) (a:=a) (b:=a+20) (hp.all hall) (by omega) (by omega) (by omega);simp only[h1,ae,e4];refine⟨n-(a+20),_,rfl,by omega,a+20,ws,rfl,rfl,hp.trans (h2.mono (Nat.zero_le _) hlt),⟨t+1,by omega⟩,hlt,fun k hk=>?_⟩;by_cases hk2:k*20+20<=a
     . exact(hu.lF h2 (Nat.le_refl _)) k hk2
     . have:k=t:=by omega
       subst this;rw[<- ht];exact h3
   . right;rw[if_neg (show ¬ ((a:Int),((a+20:Nat):Int),zs).2.1<=(n:Int)by simp;omega)];exact⟨_,rfl,a,zs,rfl,hp,⟨t,ht⟩,ha,by omega,hu⟩) n (0,20,ys)
  ⟨0,ys,rfl,rfl,Pm.refl _ _ _,⟨0,rfl⟩,Nat.zero_le _,fun k hk=>by omega⟩
 exact⟨a,zs,hr,h⟩
theorem QP{ys:List Int}(hall:nf l ys)(hb:ys.length<=PI):∃zs,cm ys l=some zs/\zs.Perm ys/\qi l zs 0 ys.length:=by
 have hb':=hb;rw[ku]at hb';obtain⟨n,hn⟩:∃n,n=ys.length:=⟨_,rfl⟩;unfold cm c7;rw[<- hn];obtain⟨a,zs,h1,hp,ht,ha1,ha2,hu⟩:=G3 hall hn hb;have hlen:=hp.len;obtain⟨ws,h2,hp2,hs2⟩:=xD (l:=l) (ys:=zs) (a:=a) (b:=n) (hp.all hall) ha1 (by omega) (by omega);have hB:Iy l ws 20 0 n:=KZ (by omega) ht (hu.lF hp2 (Nat.le_refl _)) (by rw[show min (a+20) n=n by omega];exact hs2) (by omega);rw[h1];simp only[ae,h2,Np];obtain⟨r,hr,h3,h4⟩:=e8 (f:=cU (n:Int) l)
  (fun k st=>∃(s:Nat) (zs:List Int),st=((s:Int),zs)/\k=n+20-s/\20<=s/\s<=2*n+20/\Pm ys zs 0 n/\Iy l zs s 0 n)
  (fun zs=>Pm ys zs 0 n/\qi l zs 0 n) (by
   rintro k st ⟨s,zs,rfl,rfl,h5,h6,hp,hB⟩;have hlen:=hp.len;unfold cU;by_cases hlt:s<n
   . left;rw[if_pos (show((s:Int),zs).1<(n:Int)by simp;omega)];obtain⟨a,us,q1,q2,⟨t,q3⟩,q4,q5,q6,q7⟩:=JK (l:=l) (n:=n) (s:=s) (ys:=zs) (w:=((s:Int),zs)) rfl (hp.all hall) (by omega) (by omega) (by omega) hlt hB;have hl2:=q2.len;have e1:i64.wrap ((a:Int)+(s:Int))=((a+s:Nat):Int):=by rw[jQ (by omega) (by omega)];omega
     have e2:i64.wrap ((s:Int)*2)=((2*s:Nat):Int):=by rw[jQ (by omega) (by omega)];omega
     have f1:=q7.first;have f2:=q7.second;simp only[q1,ae,e1,e2];by_cases hm:a+s<n
     . rw[if_pos (by omega)];rw[show min (a+s) n=a+s by omega]at f1;rw[show min (a+s+s) n=n by omega]at f2;obtain⟨vs,g1,g2,g3⟩:=Uu (l:=l) (ys:=us) (a:=a) (m:=a+s) (b:=n) (q2.all (hp.all hall)) (by omega) hm (by omega) (by omega) f1 f2;simp only[g1,ae];exact⟨n+20-2*s,_,rfl,by omega,2*s,vs,rfl,rfl,by omega,by omega,(hp.trans q2).trans (g2.mono (Nat.zero_le _) (Nat.le_refl _)),KZ (by omega) ⟨t,q3⟩ (q6.lF g2 (Nat.le_refl _)) (by rw[show min (a+2*s) n=n by omega];exact g3) (by omega)⟩
     . rw[if_neg (by omega)];rw[show min (a+s) n=n by omega]at f1;exact⟨n+20-2*s,_,rfl,by omega,2*s,us,rfl,rfl,by omega,by omega,hp.trans q2,KZ (by omega) ⟨t,q3⟩ q6 (by rw[show min (a+2*s) n=n by omega];exact f1) (by omega)⟩
   . right;rw[if_neg (show ¬ ((s:Int),zs).1<(n:Int)by simp;omega)];have:=hB.first;rw[show min (0+s) n=n by omega]at this;exact⟨_,rfl,hp,this⟩) n (20,ws)
  ⟨20,ws,rfl,by omega,by omega,by omega,hp.trans (hp2.mono (Nat.zero_le _) (Nat.le_refl _)),hB⟩
 exact⟨r,hr,h3.perm,h4⟩
def Js(n:Nat):List Int:=(List.range n).map fun k:Nat=>(k:Int)
theorem N7(l:List bH):nf l (Js l.length):=fun x hx=>by
 obtain⟨k,hk,rfl⟩:=List.mem_map.1 hx;have:=List.mem_range.1 hk;exact⟨by omega,by omega⟩
theorem QO(h:l.length<=17592186044416):∃ord,nu l=some (l,ord)/\ord.Perm (Js l.length)/\qi l ord 0 l.length:=by
 unfold nu;rw[Gr (by omega)];have h1:Iter (kg l) (0,List.replicate l.length 0)=some (Js l.length):=by
  refine jq l.length (fun k=>((k:Int),(Js k)++List.replicate (l.length-k) 0)) _ (fun k hk=>?_) ?_ (by simp[Js])
  . unfold kg;rw[if_pos (by simp;omega)];obtain⟨x,hx⟩:=mE (l:=Js k++List.replicate (l.length-k) (0:Int)) (i:=(k:Int)) (k:=k) rfl (by simp[Js];omega);simp only[hx,ae,jf hk (by omega),aG];congr 3;rw[show Js (k+1)=Js k++[(k:Int)]by simp[Js,List.range_succ],List.set_append_right _ _ (by simp[Js])];rw[show l.length-k=(l.length-(k+1))+1 by omega,List.replicate_succ];simp[Js]
  . unfold kg;rw[if_neg (by simp)];simp
 rw[aG,h1];simp only[ae];have hl:(Js l.length).length=l.length:=by simp[Js]
 obtain⟨zs,h2,h3,h4⟩:=QP (l:=l) (N7 l) (by rw[hl,ku];omega);have hz:=h3.length_eq;rw[h2];simp only[ae];exact⟨zs,rfl,h3,by rw[hl]at h4;exact h4⟩
end
end G
end
end Go.Proofs.YtjfkdglgecgjfaaGreat
