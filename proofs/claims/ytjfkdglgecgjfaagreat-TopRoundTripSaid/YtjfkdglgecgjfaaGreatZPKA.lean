/- Part of the proof. -/
import Derived.Test.YtjfkdglgecgjfaaGreatZEG
import Derived.KernelRfl
import Derived.WalkKit
import Derived.Deep.MidRow
import Derived.Deep.QuietTactic
import Derived.BigQuiet
import Derived.Deep.RegionWith
import Derived.Lib.Hide
import Derived.WalkSpells
import Derived.Lib.SlBytesConst
import Derived.Laws.BytesArg
import Derived.Deep.AppendSrc
import Derived.RangeFuncRecord
import Derived.OrdersIn
import Derived.TacticsIn
namespace Go.Proofs.YtjfkdglgecgjfaaGreat
section
open IntKind(i64)
open G
namespace G
theorem GV(a:List UInt8)(h:a.length<=140737488355328):cH a=some a:=by
 unfold cH
 cases a with
 |nil=>
  show agree _ ((app 1 ([]:List UInt8) []).bind fun y=>some y)=_
  rw[n8 (by simp)];exact G1 _
 |cons x l=>
  show((app 1 ([]:List UInt8) (x::l)).bind fun y=>some y)=_
  rw[n8 (by simp at h ⊢; omega)];rfl
end G
namespace RS
def p(s:RS):dM:=⟨s.bs,s.at_,⟨s.code,s.pos⟩⟩
def r(s:RS):bG:=⟨s.p⟩
def Fit(s:RS):Prop:=s.at_<=s.bs.length/\s.bs.length<=1099511627776/\(s.code=0->s.pos=0)
theorem Fit.fail{s:RS}(h:s.Fit)(c p:Int):(s.fail c p).Fit:=by
 unfold Fit;rw[(gC s c p).1,(gC s c p).2];refine⟨h.1,h.2.1,?_⟩;unfold RS.fail;split
 . rename_i k;exact fun k'=>absurd k' k.2
 . exact h.2.2
theorem Fit.take{s:RS}(h:s.Fit)(n:Int):(s.take n).2.Fit:=by
 refine⟨jA s h.1 n,by rw[yu];exact h.2.1,?_⟩;unfold RS.take;split
 . exact h.2.2
 . split
   . exact(h.fail _ _).2.2
   . split
     . exact(h.fail _ _).2.2
     . exact h.2.2
theorem Fit.uint{s:RS}(h:s.Fit)(n:Int):(s.uint n).2.Fit:=by rw[qV];exact h.take _
theorem Fit.bytes{s:RS}(h:s.Fit)(n:Int):(s.bytes n).2.Fit:=by rw[nv];exact h.take _
theorem Fit.length{s:RS}(h:s.Fit):s.length.2.Fit:=by
 unfold RS.length;split
 . exact(h.uint 8).fail _ _
 . exact h.uint 8
theorem Fit.expect{s:RS}(h:s.Fit)(b:List UInt8)(c:Int):(s.expect b c).2.Fit:=by
 unfold RS.expect;split
 . exact h
 . split
   . exact h.fail _ _
   . exact h.take _
theorem zt(s:RS)(c n:Int):cE c n s.r=some (s.fail c n).r:=by
 unfold cE RS.fail r p;by_cases h:s.code=0<;>by_cases h2:c=0<;>simp[h,h2]
theorem IE{s:RS}(h:s.Fit){n:Int}(hn:Br n):dI n s.r=some ((s.take n).1.getD [],(s.take n).1.isSome,(s.take n).2.r):=by
 unfold Br at hn;obtain⟨h1,h2,h3⟩:=h;unfold dI;by_cases hc:s.code=0
 . have hc':¬ s.r.position.fault.code≠0:=by simp[r,p,hc]
   rw[if_neg hc'];by_cases hneg:n<0
   . rw[if_pos hneg,zt,GC s hc n hneg];rfl
   . rw[if_neg hneg];have e:i64.wrap ((s.r.position.b.length:Int)-s.r.position.at_)=(s.bs.length:Int)-s.at_:=by
      simp only[r,p];rw[Bq (by omega) (by omega)]
     rw[e];by_cases hs:n>(s.bs.length:Int)-s.at_
     . rw[if_pos hs,A4 s hc n (by omega) (by omega)];have:(s.r.position.b.length:Int)=s.bs.length:=rfl;rw[this,zt];rfl
     . rw[if_neg hs];obtain⟨k,rfl⟩:∃k:Nat,n=(k:Int):=⟨n.toNat,by omega⟩;rw[rV s hc k (by omega)];have e2:i64.wrap (s.r.position.at_+(k:Int))=((s.at_+k:Nat):Int):=by simp only[r,p];rw[Bq (by omega) (by omega)];omega
       have e3:i64.wrap (((s.at_+k:Nat):Int)-(k:Int))=(s.at_:Int):=by rw[Bq (by omega) (by omega)];omega
       rw[e2,e3,ME (by simp only[r,p];omega)];simp only[r,p,ae,aK,Option.getD_some,Option.isSome_some,List.drop_take,Nat.add_sub_cancel_left]
 . have hc':s.r.position.fault.code≠0:=hc;rw[if_pos hc',GA s hc];rfl
theorem BL{s:RS}(n:Int):((s.take n).1.getD []).length<=s.bs.length:=by
 cases h:(s.take n).1 with
 |none=>simp
 |some l=>exact D4 s h
theorem Ya(x:Nat)(c:UInt8)(h:x<72057594037927936):Ug .u64 (xK .u64 (x:Int) 8) (c.toNat:Int)=((256*x+c.toNat:Nat):Int):=by
 have hc:=c.toNat_lt;have e1:xK .u64 (x:Int) 8=((x*256:Nat):Int):=by
  unfold xK;have:(2:Int) ^ (min (8:Int).toNat IntKind.u64.bits)=256:=by decide
  rw[this,Tp (by omega) (by omega)];omega
 rw[e1];unfold Ug;have e2:∀n:Nat,BitVec.ofInt 64 (n:Int)=BitVec.ofNat 64 n:=fun n=>by simp
 have e3:x*256 ||| c.toNat=256*x+c.toNat:=by
  have:=Nat.shiftLeft_add_eq_or_of_lt (i:=8) (b:=c.toNat) (by omega) x;rw[Nat.shiftLeft_eq,show(2:Nat) ^ 8=256 from rfl]at this;omega
 have e4:(BitVec.ofInt 64 ((x*256:Nat):Int) ||| BitVec.ofInt 64 (c.toNat:Int)).toNat=256*x+c.toNat:=by
  rw[e2,e2,BitVec.toNat_or,BitVec.toNat_ofNat,BitVec.toNat_ofNat,Nat.mod_eq_of_lt (by omega),Nat.mod_eq_of_lt (by omega),e3]
 show IntKind.u64.wrap (((BitVec.ofInt 64 ((x*256:Nat):Int) ||| BitVec.ofInt 64 (c.toNat:Int)).toNat:Nat):Int)=_;rw[e4];exact Tp (by omega) (by omega)
theorem D5{s:RS}(h:s.Fit){n:Int}(hn:Br n):dH n s.r=some (((s.uint n).1:Int),(s.uint n).2.r):=by
 unfold dH;have e1:((if n<1 then some true else some (decide (n>8))):Option Bool)=some (decide (n<1\/8<n)):=by
  by_cases h1:n<1<;>simp[h1]
 have e2:(((if n<1 then some true else some (decide (n>8))):Option Bool).bind fun v1=>(if v1=true then some (-1)else some n))=some (size n):=by
  rw[e1];unfold size;by_cases h1:n<1\/8<n<;>simp[h1]
 rw[<- aD,e2];simp only[ae];have hsz:Br (size n):=by unfold Br size at *; split<;>omega
 rw[IE h hsz];simp only[ae]
 cases ht:(s.take (size n)).1 with
 |none=>rw[wJ s ht];simp[r]
 |some l=>
  rw[nW s ht]
  simp only[Option.isSome_some,Option.getD_some,Bool.true_eq_false,if_false,qX,ae]
  have hl8:=D3 s ht
  refine iM l.length (fun k=>((num (l.take k):Int),(k:Int),(num (l.take k):Int))) _ (fun k hk=>?_) ?_ (by simp[num])
  . unfold iq
    have h1:((k:Int))<(l.length:Int):=by omega
    simp only[h1,if_true,iU hk,ae,nj]
    have hb:=FZ l k hk hl8
    rw[Ya _ _ hb,sB hk (by omega),BF l k hk,yf _ _ _ hk]
  . unfold iq
    simp[bu,r]
theorem lR{s:RS}(h:s.Fit):b6 s.r=some (s.length.1,s.length.2.r):=by
 unfold b6;rw[D5 h (by unfold Br;omega)];simp only[ae];unfold RS.length;by_cases hc:4611686018427387903<(s.uint 8).1
 . rw[if_pos (by omega),if_pos hc];rw[zt];rfl
 . rw[if_neg (by omega),if_neg hc,Bq (by omega) (by omega)]
theorem Jl{s:RS}(h:s.Fit){n:Int}(hn:Br n):eW n s.r=some ((s.bytes n).1,(s.bytes n).2.r):=by
 unfold eW;rw[IE h hn];have hl:=BL (s:=s) n;simp only[ae];have hb:=h.2.1;rw[GV _ (by omega)];simp only[ae]
 cases ht:(s.take n).1 with
 |none=>rw[G7 s ht];rfl
 |some l=>rw[yX s ht];rfl
theorem hasPrefix(l b:List UInt8)(h:l.length<=b.length):G.bytes_HasPrefix b l=some (decide (b.take l.length=l)):=by
 unfold G.bytes_HasPrefix G.bytes_Equal;rw[if_pos (by omega),Gs (by omega)];simp
theorem NR{s:RS}(h:s.Fit)(b:List UInt8)(c:Int)(hb:b.length<=1099511627776):fP b c s.r=some ((s.expect b c).1,(s.expect b c).2.r):=by
 have h1:=h.1;have h2:=h.2.1;unfold fP RS.expect;by_cases hc:s.code=0
 . rw[if_neg (show ¬ s.r.position.fault.code≠0 by simp[r,p,hc]),if_neg (by simp[hc])];rw[show s.r.position.b=s.bs from rfl,show s.r.position.at_=(s.at_:Int) from rfl,Iy (by omega)];simp only[ae,aK];have e:j9 (b.length:Int) ((s.bs.drop s.at_).length:Int)=((min b.length (s.bs.drop s.at_).length:Nat):Int):=by unfold j9;split<;>omega
   rw[e,Gs (by omega)];simp only[ae,aK];have e2:(s.bs.drop s.at_).take (min b.length (s.bs.drop s.at_).length)=(s.bs.drop s.at_).take b.length:=by
    rw[List.take_eq_take_iff];omega
   rw[e2,hasPrefix _ _ (by simp;omega)];simp only[ae];by_cases hp:(s.bs.drop s.at_).take b.length=b.take ((s.bs.drop s.at_).take b.length).length
   . rw[if_neg (by rw[decide_eq_true hp.symm];simp),if_neg (by simpa using hp),IE h (by unfold Br;omega)];rfl
   . rw[if_pos (decide_eq_false (fun k=>hp k.symm)),if_pos hp,zt];rfl
 . rw[if_pos (show s.r.position.fault.code≠0 from hc),if_pos hc]
theorem Hx(s:RS)(c n:Int):cL c n s.r=some (s.fail c n).r:=by
 unfold cL;rw[zt];rfl
end RS
namespace RS
def cmd(s:RS):bK×RS:=
 if(s.uint 1).1=1 then
  (⟨1,(s.uint 1).2.length.1,(s.uint 1).2.length.2.length.1,(s.uint 1).2.length.2.length.2.length.1,[]⟩,(s.uint 1).2.length.2.length.2.length.2)
 else if(s.uint 1).1=2 then
  (⟨2,(s.uint 1).2.length.1,0,0,((s.uint 1).2.length.2.length.2.bytes (s.uint 1).2.length.2.length.1).1⟩,((s.uint 1).2.length.2.length.2.bytes (s.uint 1).2.length.2.length.1).2)
 else(⟨0,0,0,0,[]⟩,(s.uint 1).2.fail 11 s.at_)
def iw:Nat->RS->List bK->RS×List bK
 |0,s,l=>(s,l)
 |n+1,s,l=>if s.code=0 then iw n s.cmd.2 (l++[s.cmd.1])else(s,l)
theorem Fit.cmd{s:RS}(h:s.Fit):s.cmd.2.Fit:=by
 unfold RS.cmd;split
 . exact(h.uint 1).length.length.length
 . split
   . exact(h.uint 1).length.length.bytes _
   . exact(h.uint 1).fail _ _
theorem Uk(s:RS):s.cmd.2.bs=s.bs:=by
 unfold cmd;split
 . rw[jO,jO,jO,jB]
 . split
   . rw[yV,jO,jO,jB]
   . rw[(gC _ _ _).1,jB]
theorem P6(s:RS):(s.uint 1).1<256:=by
 cases h:(s.take (size 1)).1 with
 |none=>rw[wJ s h];exact(by decide:(0:Nat)<256)
 |some l=>
  rw[nW s h]
  have:=DD l
  have hl:l.length<=1:=by
   unfold RS.take at h;split at h
   . cases h
   . split at h
     . cases h
     . split at h
       . cases h
       . cases h;simp[size];omega
  have:256 ^ l.length<=256 ^ 1:=Nat.pow_le_pow_right (by omega) hl
  omega
theorem HM(s:RS):Br s.length.1:=by
 unfold RS.length;split
 . unfold Br;dsimp only;omega
 . unfold Br;dsimp only;omega
theorem Wo{s:RS}(h:s.Fit):ek s.r=some (s.cmd.1,s.cmd.2.r):=by
 unfold ek eE;have hu:=P6 s;simp only[ae];rw[D5 h (by unfold Br;omega)];simp only[ae];rw[Bq (by omega) (by omega)];have f1:=h.uint 1;unfold RS.cmd;by_cases h1:(s.uint 1).1=1
 . rw[if_pos (by unfold sC;exact decide_eq_true (by omega)),if_pos h1];unfold fI;simp only[lR f1,lR f1.length,lR f1.length.length,ae]
 . rw[if_neg (by unfold sC;rw[aR];omega),if_neg h1];by_cases h2:(s.uint 1).1=2
   . rw[if_pos (by unfold sC;exact decide_eq_true (by omega)),if_pos h2];unfold fJ;simp only[lR f1,lR f1.length,Jl f1.length.length (HM _),ae]
   . rw[if_neg (by unfold sC;rw[aR];omega),if_neg h2];simp only[Hx,ae];rfl
theorem fY{s:RS}{c p:Int}(hc:c≠0):(s.fail c p).code≠0:=by
 unfold RS.fail;split
 . exact hc
 . rename_i h;exact fun k=>h ⟨k,hc⟩
theorem KA(s:RS)(n:Int):s.at_<=(s.take n).2.at_:=by
 unfold RS.take;split
 . exact Nat.le_refl _
 . split
   . rw[(gC _ _ _).2];exact Nat.le_refl _
   . split
     . rw[(gC _ _ _).2];exact Nat.le_refl _
     . dsimp only;omega
theorem KE(s:RS)(n:Int):s.at_<=(s.uint n).2.at_:=by rw[qV];exact KA s _
theorem nM(s:RS):s.at_<=s.length.2.at_:=by
 unfold RS.length;split
 . rw[(gC _ _ _).2];exact KE s 8
 . exact KE s 8
theorem Nk(s:RS)(n:Int):s.at_<=(s.bytes n).2.at_:=by rw[nv];exact KA s _
theorem rU{s:RS}{n:Int}(h:(s.take n).2.code=0):s.code=0/\0<=n/\(s.at_:Int)+n<=s.bs.length/\s.take n=(some ((s.bs.drop s.at_).take n.toNat),{s with at_:=s.at_+n.toNat}):=by
 by_cases hc:s.code=0
 . by_cases hn:n<0
   . rw[GC s hc n hn]at h;exact absurd h (fY (by decide))
   . by_cases hs:(s.bs.length:Int)-s.at_<n
     . rw[A4 s hc n (by omega) hs]at h;exact absurd h (fY (by decide))
     . refine⟨hc,by omega,by omega,?_⟩;unfold RS.take;rw[if_neg (by simp[hc]),if_neg hn,if_neg hs]
 . rw[GA s hc]at h;exact absurd h hc
theorem sa{s:RS}{n:Int}(h1:1<=n)(h8:n<=8)(h:(s.uint n).2.code=0):s.code=0/\(s.at_:Int)+n<=s.bs.length/\s.uint n=(num ((s.bs.drop s.at_).take n.toNat),{s with at_:=s.at_+n.toNat}):=by
 have hz:size n=n:=by unfold size;rw[if_neg (by omega)]
 rw[qV,hz]at h;obtain⟨a,b,c,d⟩:=rU h;refine⟨a,c,?_⟩;rw[nW s (l:=(s.bs.drop s.at_).take n.toNat) (by rw[hz,d]),hz,d]
theorem jc{s:RS}(h:s.length.2.code=0):s.code=0/\s.at_+8<=s.bs.length/\num ((s.bs.drop s.at_).take 8)<=4611686018427387903/\s.length=((num ((s.bs.drop s.at_).take 8):Int),{s with at_:=s.at_+8}):=by
 unfold RS.length at h ⊢;split at h
 . exact absurd h (fY (by decide))
 . rename_i hc;obtain⟨a,b,c⟩:=sa (by decide) (by decide) h;rw[if_neg hc,c];rw[c]at hc;exact⟨a,by omega,Nat.not_lt.mp hc,rfl⟩
theorem yW{s:RS}{n:Int}(h:(s.bytes n).2.code=0):s.code=0/\0<=n/\(s.at_:Int)+n<=s.bs.length/\s.bytes n=((s.bs.drop s.at_).take n.toNat,{s with at_:=s.at_+n.toNat}):=by
 rw[nv]at h;obtain⟨a,b,c,d⟩:=rU h;exact⟨a,b,c,by unfold RS.bytes;rw[d]⟩
theorem Uj{s:RS}(h:s.cmd.2.code=0):s.at_+1<=s.cmd.2.at_:=by
 have key:(s.uint 1).2.code=0->s.at_+1<=(s.uint 1).2.at_:=fun k=>by
  obtain⟨_,_,e⟩:=sa (by decide) (by decide) k;rw[e];exact Nat.le_refl _
 unfold RS.cmd at h ⊢;split at h
 . rename_i h1;rw[if_pos h1];have:=key (jc (jc (jc h).1).1).1;have a:=nM (s.uint 1).2;have b:=nM (s.uint 1).2.length.2;have c:=nM (s.uint 1).2.length.2.length.2;dsimp only;omega
 . split at h
   . rename_i h1 h2;rw[if_neg h1,if_pos h2];have:=key (jc (jc (yW h).1).1).1;have a:=nM (s.uint 1).2;have b:=nM (s.uint 1).2.length.2;have c:=Nk (s.uint 1).2.length.2.length.2 (s.uint 1).2.length.2.length.1;dsimp only;omega
   . exact absurd h (fY (by decide))
end RS
def QJ:cx:=⟨0,0,fun _=>0,fun _=>0,[]⟩
def lU:List UInt8:=[71,82,70,84]
def hash(l:List UInt8):Nat->UInt8:=Jq 32 (fun _=>0) l
theorem FN:([u8 71,u8 82,u8 70,u8 84]:List UInt8)=lU:=by kernel_rfl
namespace cl
def s0(b:List UInt8):RS:=⟨b,0,0,0⟩
def s1(b:List UInt8):RS:=((s0 b).expect lU 9).2
def s2(b:List UInt8):RS:=if((s1 b).uint 1).1≠1 then((s1 b).uint 1).2.fail 10 4 else((s1 b).uint 1).2
def s3(b:List UInt8):RS:=(s2 b).length.2
def s4(b:List UInt8):RS:=(s3 b).length.2
def s5(b:List UInt8):RS:=((s4 b).bytes 32).2
def s6(b:List UInt8):RS:=((s5 b).bytes 32).2
def s7(b:List UInt8):RS:=((s6 b).uint 4).2
def s8(b:List UInt8):RS×List bK:=RS.iw ((s6 b).uint 4).1 (s7 b) []
def s9(b:List UInt8):RS:=if(s8 b).1.at_<b.length then(s8 b).1.fail 12 (s8 b).1.at_ else(s8 b).1
def d(b:List UInt8):cx:=⟨(s2 b).length.1,(s3 b).length.1,hash ((s4 b).bytes 32).1,hash ((s5 b).bytes 32).1,(s8 b).2⟩
end cl
def dec(b:List UInt8):cx×Int×Int:=if(cl.s9 b).code≠0 then(QJ,(cl.s9 b).code,(cl.s9 b).pos)else(cl.d b,0,0)
namespace RS
theorem Fit.iw:∀{n:Nat} {s:RS} {l:List bK},s.Fit->(RS.iw n s l).1.Fit
 |0,_,_,h=>h
 |n+1,s,l,h=>by
  unfold RS.iw;split
  . exact h.cmd.iw
  . exact h
theorem Jn:∀(n:Nat) (s:RS) (l:List bK),(RS.iw n s l).1.bs=s.bs
 |0,_,_=>rfl
 |n+1,s,l=>by
  unfold RS.iw;split
  . rw[Jn n,Uk]
  . rfl
theorem GH(s:RS):(s.uint 4).1<4294967296:=by
 cases h:(s.take (size 4)).1 with
 |none=>rw[wJ s h];exact(by decide:(0:Nat)<4294967296)
 |some l=>
  rw[nW s h]
  have:=DD l
  have hl:l.length<=4:=by
   unfold RS.take at h;split at h
   . cases h
   . split at h
     . cases h
     . split at h
       . cases h
       . cases h;simp[size];omega
  have:256 ^ l.length<=256 ^ 4:=Nat.pow_le_pow_right (by omega) hl
  omega
theorem Vs{s:RS}(h:s.Fit):eP s.r=some (decide (s.code=0)):=by
 unfold eP gG;have:=h.2.2;by_cases hc:s.code=0
 . simp[r,p,hc,this hc]
 . simp[r,p,hc]
theorem Nt(c1 c2:Int)(c3 c4:Nat->UInt8)(c5:List bK)(o w:Int)(h1' h2':Nat->UInt8):∀(n:Nat) (s:RS) (l:List bK),s.Fit->n<4294967296->(s.code=0->l.length<=s.at_)->Iter fv ((n:Int),c1,c2,c3,c4,c5,s.r,o,w,h1',h2',l)=some (c1,c2,c3,c4,c5,(iw n s l).1.r,o,w,h1',h2',(iw n s l).2)
 |0,s,l,h,_,_=>by
  apply tQ;unfold fv;rw[if_neg (by dsimp only;omega)];rfl
 |n+1,s,l,h,hn,hl=>by
  by_cases hc:s.code=0
  . have hl':=hl hc;have h1:=h.1;have h2:=h.2.1;have:=Nt c1 c2 c3 c4 c5 o w h1' h2' n s.cmd.2 (l++[s.cmd.1]) h.cmd (by omega) (fun k=>by have:=Uj k;simp;omega);unfold RS.iw;rw[if_pos hc,<- this];apply yE;unfold fv;dsimp only;rw[if_pos (by omega),Vs h];simp only[ae,hc,decide_true,if_true];rw[Wo h];simp only[ae];rw[n8 (by simp;omega)];simp only[ae];rw[Tp (by omega) (by omega)];have:(((n+1:Nat):Int)-1)=(n:Int):=by omega
    rw[this]
  . unfold RS.iw;rw[if_neg hc];apply tQ;unfold fv;dsimp only;rw[if_pos (by omega),Vs h];simp[hc]
end RS
open RS
theorem Pq{b:List UInt8}(h:b.length<=1099511627776):(cl.s0 b).Fit:=⟨Nat.zero_le _,h,fun _=>rfl⟩
namespace cl
variable {b:List UInt8}
theorem f1(h:b.length<=1099511627776):(s1 b).Fit:=(Pq h).expect _ _
theorem f2(h:b.length<=1099511627776):(s2 b).Fit:=by
 unfold s2;split
 . exact((f1 h).uint 1).fail _ _
 . exact(f1 h).uint 1
theorem f3(h:b.length<=1099511627776):(s3 b).Fit:=(f2 h).length
theorem f4(h:b.length<=1099511627776):(s4 b).Fit:=(f3 h).length
theorem f5(h:b.length<=1099511627776):(s5 b).Fit:=(f4 h).bytes 32
theorem f6(h:b.length<=1099511627776):(s6 b).Fit:=(f5 h).bytes 32
theorem f7(h:b.length<=1099511627776):(s7 b).Fit:=(f6 h).uint 4
theorem f8(h:b.length<=1099511627776):(s8 b).1.Fit:=(f7 h).iw
theorem f9(h:b.length<=1099511627776):(s9 b).Fit:=by
 unfold s9;split
 . exact(f8 h).fail _ _
 . exact f8 h
theorem b2:(s2 b).bs=b:=by
 unfold s2;split
 . rw[(gC _ _ _).1,jB];exact rB _ _ _
 . rw[jB];exact rB _ _ _
theorem b7:(s7 b).bs=b:=by
 unfold s7 s6 s5 s4 s3;rw[jB,yV,yV,jO,jO,b2]
theorem b8:(s8 b).1.bs=b:=by unfold s8;rw[Jn,b7]
theorem a1:((s0 b).expect [u8 71,u8 82,u8 70,u8 84] 9).2=s1 b:=by rw[FN];rfl
theorem a3:(s2 b).length.2=s3 b:=rfl
theorem a4:(s3 b).length.2=s4 b:=rfl
theorem a5:((s4 b).bytes 32).2=s5 b:=rfl
theorem a6:((s5 b).bytes 32).2=s6 b:=rfl
theorem a7:((s6 b).uint 4).2=s7 b:=rfl
theorem a8:RS.iw ((s6 b).uint 4).1 (s7 b) []=s8 b:=rfl
theorem ar:(⟨⟨b,0,⟨0,0⟩⟩⟩:bG)=(s0 b).r:=rfl
theorem ad:d b=(⟨(s2 b).length.1,(s3 b).length.1,hash ((s4 b).bytes 32).1,hash ((s5 b).bytes 32).1,(s8 b).2⟩:cx):=rfl
theorem a2:s2 b=if((s1 b).uint 1).1≠1 then((s1 b).uint 1).2.fail 10 4 else((s1 b).uint 1).2:=rfl
theorem a9:s9 b=if(s8 b).1.at_<b.length then(s8 b).1.fail 12 (s8 b).1.at_ else(s8 b).1:=rfl
attribute [irreducible] s1 s2 s3 s4 s5 s6 s7 s8 s9
end cl
theorem Nz(l:List UInt8):TA (fun _=>0) (0:Int).toNat (j9 (l.length:Int) ((32:Int)-(0:Int))).toNat l=hash l:=by
 funext i;unfold TA hash Jq;have e:(j9 (l.length:Int) ((32:Int)-(0:Int))).toNat=min 32 l.length:=by unfold j9;split<;>omega
 rw[e];by_cases h:i<32/\i<l.length
 . rw[if_pos h,if_pos ⟨Nat.zero_le _,by show i<0+_;omega⟩];rfl
 . rw[if_neg h,if_neg fun k=>h (by have:i<0+min 32 l.length:=k.2;omega)]
theorem Oc{s:RS}(h:s.Fit):dY s.r=some (hash (s.bytes 32).1,(s.bytes 32).2.r):=by
 unfold dY;rw[Hb (by omega),Jl h (by unfold Br;omega)];simp only[ae];rw[Nz]
theorem EJ{b:List UInt8}(h:b.length<=1099511627776):fZ b=some ((dec b).1,⟨(dec b).2.1,(dec b).2.2⟩):=by
 unfold fZ A8;rw[GV _ (by omega)];simp only[ae];rw[cl.ar,NR (Pq h) _ _ (by decide)];simp only[ae];rw[cl.a1,D5 (cl.f1 h) (by unfold Br;omega)];simp only[ae];have e2:((if(((cl.s1 b).uint 1).1:Int)≠1 then(cL 10 4 ((cl.s1 b).uint 1).2.r).bind fun y16=>some y16 else some ((cl.s1 b).uint 1).2.r):Option bG)=some (cl.s2 b).r:=by
  rw[cl.a2];rw[Hx];by_cases hv:((cl.s1 b).uint 1).1=1
  . rw[if_neg (by omega),if_neg (by omega)]
  . rw[if_pos (by omega),if_pos (by omega)];rfl
 rw[e2];simp only[ae];show(b6 (cl.s2 b).r).bind _=_;rw[lR (cl.f2 h)];simp only[ae];rw[cl.a3,lR (cl.f3 h)];simp only[ae];rw[cl.a4,Oc (cl.f4 h)];simp only[ae];rw[cl.a5,Oc (cl.f5 h)];simp only[ae];rw[cl.a6,D5 (cl.f6 h) (by unfold Br;omega)];simp only[ae];rw[cl.a7,Nt _ _ _ _ _ _ _ _ _ _ _ _ (cl.f7 h) (GH _) (fun _=>Nat.zero_le _)];simp only[ae];rw[cl.a8];have g8:=(cl.f8 h).1;have g8':=(cl.f8 h).2.1;have e9:((fB (cl.s8 b).1.r).bind fun y9=>(if y9>0 then(eE (cl.s8 b).1.r).bind fun y12=>(cL 12 y12 (cl.s8 b).1.r).bind fun y13=>some y13 else some (cl.s8 b).1.r:Option bG))=some (cl.s9 b).r:=by
  unfold fB eE;rw[cl.a9];simp only[ae,Hx,show(cl.s8 b).1.r.position.b=(cl.s8 b).1.bs from rfl,show(cl.s8 b).1.r.position.at_=((cl.s8 b).1.at_:Int) from rfl];rw[Bq (by omega) (by omega)];rw[cl.b8]at g8 ⊢;by_cases hx:(cl.s8 b).1.at_<b.length
  . rw[if_pos (by omega),if_pos hx]
  . rw[if_neg (by omega),if_neg hx]
 show(fB (cl.s8 b).1.r).bind (fun y9=>Option.bind (if y9>0 then(eE (cl.s8 b).1.r).bind fun y12=>(cL 12 y12 (cl.s8 b).1.r).bind fun y13=>some y13 else some (cl.s8 b).1.r:Option bG) _)=_;rw[<- aD,e9];simp only[ae];rw[Vs (cl.f9 h)];simp only[ae];unfold dec;by_cases hc:(cl.s9 b).code=0
 . rw[if_neg (by simp[hc]),if_neg (by simp[hc])];rfl
 . rw[if_pos (by simp[hc]),if_pos hc];rfl
end
section
open IntKind(i64)
open G
open RS
theorem LV(v k:Nat)(h1:1<=k)(hk:k<=8)(hv:v<256 ^ k):iL ⟨(v:Int),(k:Int)⟩=some true:=by
 unfold iL;dsimp only;rw[if_pos (by omega),if_pos (by omega),Bq (x:=8*(k:Int)) (by omega) (by omega),Bq (by omega) (by omega),Hb (by omega)];simp only[ae];have e:o7 .u64 (o7 .u64 (v:Int) (8*(k:Int)-1)) 1=0:=by
  unfold o7;have e1:min (8*(k:Int)-1).toNat IntKind.u64.bits=8*k-1:=by show min _ 64=_;omega
  rw[e1,show min (1:Int).toNat IntKind.u64.bits=1 from rfl];have e2:((2:Int) ^ (8*k-1))=((2 ^ (8*k-1):Nat):Int):=by rw[Int.natCast_pow];rfl
  have e0:∀m:Nat,0<=(2:Int) ^ m:=fun m=>by rw[show(2:Int)=((2:Nat):Int) from rfl,<- Int.natCast_pow];exact Int.natCast_nonneg _
  rw[Int.fdiv_eq_ediv_of_nonneg _ (e0 _),Int.fdiv_eq_ediv_of_nonneg _ (e0 _),e2,<- Int.natCast_ediv];have e3:(2:Nat) ^ (8*k-1)*2=256 ^ k:=by
   rw[<- Nat.pow_succ,show(8*k-1).succ=8*k by omega,Nat.pow_mul]
  have e4:v/2 ^ (8*k-1)<2:=by
   rw[Nat.div_lt_iff_lt_mul (Nat.pow_pos (by decide)),Nat.mul_comm,e3];exact hv
  generalize v/2 ^ (8*k-1)=y at*
  show(y:Int)/2=0;omega
 rw[e];rfl
theorem KH(v:Nat)(s1:(List UInt8)×Int)(sz:Int):∀(k:Nat) (b:List UInt8),k<=8->b.length+k<=140737488355328->Iter (jC s1 ⟨(v:Int),sz⟩) (b,(k:Int)-1)=some (.inl (b++be k v,i64.wrap (s1.2+1)))
 |0,b,_,_=>by
  apply tQ;unfold jC;simp[be]
 |k+1,b,hk,hb=>by
  have e:((k+1:Nat):Int)-1=(k:Int):=by omega
  rw[e];have ih:=KH v s1 sz k (b++[UInt8.ofNat (v/256 ^ k)]) (by omega) (by simp;omega);rw[be,List.append_cons,<- ih];apply yE;unfold jC;dsimp only;rw[if_pos (by omega),Bq (by omega) (by omega),Hb (by omega),Bq (by omega) (by omega)];simp only[ae];rw[byteOf v k (by omega),n8 (by simp;omega)];rfl
def BB(l:List (Nat×Nat)):List cg:=l.map fun x=>⟨(x.1:Int),(x.2:Int)⟩
def dV(l:List (Nat×Nat)):List UInt8:=l.flatMap fun x=>be x.2 x.1
theorem KG(l:List (Nat×Nat))(b:List UInt8)(hl:∀x∈l,1<=x.2/\x.2<=8/\x.1<256 ^ x.2)(hb:b.length+(dV l).length<=140737488355328)(hn:l.length<=1000):gV b (BB l)=some (b++dV l,true):=by
 unfold gV;have hx:∀k,(dV (l.take k)).length<=(dV l).length:=fun k=>by
  have:dV l=dV (l.take k)++dV (l.drop k):=by unfold dV;rw[<- List.flatMap_append,List.take_append_drop]
  rw[this];simp
 rw[GV _ (by omega)];simp only[ae];refine iM l.length (fun k=>(b++dV (l.take k),(k:Int))) _ (fun k hk=>?_) ?_ (by simp[dV])
 . unfold l8;have hk':k<(BB l).length:=by simpa[BB]using hk
   dsimp only;rw[if_pos (by omega),iU hk'];simp only[ae];have e:(BB l)[k]=⟨(l[k].1:Int),(l[k].2:Int)⟩:=by simp[BB]
   obtain⟨h1,h8,hv⟩:=hl _ (bw hk);have hs:dV (l.take (k+1))=dV (l.take k)++be l[k].2 l[k].1:=by
    unfold dV;rw[List.take_succ_eq_append_getElem hk,List.flatMap_append];simp
   have hlen:=hx (k+1);rw[hs,ay,iP]at hlen;rw[e,LV _ _ h1 h8 hv];simp only[ae,Bool.true_eq_false,if_false];rw[Bq (by omega) (by omega),KH _ _ _ _ _ h8 (by simp;omega),sB hk (by omega),hs,az]
 . unfold l8;rw[if_neg (by simp[BB])];simp
def jl(x:Int):Bool:=decide (0<=x/\x<=4611686018427387903)
theorem M5(x:Int):kP ⟨0,x⟩=some (jl x):=by
 unfold kP jl j9;dsimp only;rw[Bq (by omega) (by omega)];by_cases h:x<0
 . rw[if_pos h,if_neg (by omega),decide_eq_false (by omega)]
 . rw[if_neg h,if_pos (by omega),if_pos (by omega)];congr 1;rw[decide_eq_decide];omega
theorem wN(l:List Int)(hl:l.length<=1000):gb l=some (l.all jl):=by
 unfold gb;have:=nm (f:=fw l) l (fun x=>!jl x) (fun k=>(k:Int)) (fun _=>false) true (fun k h hb=>?_) (fun k h hb=>?_) ?_ (s:=0) rfl
 . rcases this with⟨ha,he⟩|⟨k,h,hb,_,he⟩
   . rw[he];congr 1;symm;rw[aE];intro x hx;simpa using ha x hx
   . rw[he];congr 1;symm;rw[List.all_eq_false];exact⟨_,bw h,by simpa using hb⟩
 . unfold fw;rw[if_pos (by omega),iU h];simp only[ae,M5];simp only[Bool.not_eq_false']at hb;rw[hb,sB h (by omega)];simp
 . unfold fw;rw[if_pos (by omega),iU h];simp only[ae,M5];simp only[Bool.not_eq_true']at hb;rw[hb];simp
 . unfold fw;rw[if_neg (by omega)]
def GQ(c:bK):Bool:=c.kind == 1||c.kind == 2
def HY(c:bK):Bool:=if c.kind=1 then jl c.to&&jl c.eR&&jl c.len&&c.data.isEmpty else jl c.to&&(c.eR == 0)&&(c.len == 0)
def sI(d:cx):Int:=if d.bD.all GQ=false then 11 else if jl d.dj&&jl d.dw&&d.bD.all HY then 0 else 2
theorem M8{α:Type}(l:List α)(f:α->Bool)(k:Nat)(h:k<l.length):(l.take (k+1)).all f=((l.take k).all f&&f l[k]):=by
 rw[List.take_succ_eq_append_getElem h,List.all_append];simp only[List.all_cons,List.all_nil,Bool.and_true]
theorem Rb(d:cx)(hn:d.bD.length<=9223372036854775807):kU d=some (sI d):=by
 unfold kU;rw[wN _ (by simp)];simp only[ae,List.all_cons,List.all_nil,Bool.and_true];have:=nm (f:=fW d) d.bD (fun c=>!GQ c) (fun k=>((jl d.dj&&jl d.dw&&(d.bD.take k).all HY),(k:Int))) (fun _=>.inr 11) (.inl (jl d.dj&&jl d.dw&&d.bD.all HY)) (fun k h hb=>?_) (fun k h hb=>?_) ?_ (s:=(jl d.dj&&jl d.dw,0)) (by simp)
 . unfold sI;rcases this with⟨ha,he⟩|⟨k,h,hb,_,he⟩
   . have:d.bD.all GQ=true:=by rw[aE];intro x hx;simpa using ha x hx
     rw[he,this];simp only[ae,nK,Bool.true_eq_false,if_false];cases(jl d.dj&&jl d.dw&&d.bD.all HY)<;>rfl
   . have:d.bD.all GQ=false:=by rw[List.all_eq_false];exact⟨_,bw h,by simpa using hb⟩
     rw[he,this];rfl
 . unfold fW;dsimp only;rw[if_pos (by omega),iU h];simp only[ae];rw[sB h hn,M8 _ _ _ h,<- Bool.and_assoc];generalize (jl d.dj&&jl d.dw&&(d.bD.take k).all HY)=a;generalize d.bD[k]=c at*
   rw[wN _ (by simp),wN _ (by simp)];unfold GQ at hb;unfold HY;by_cases h1:c.kind=1
   . rw[if_pos h1,if_pos h1];have:((c.data.length:Int) == 0)=c.data.isEmpty:=by cases c.data<;>simp<;>omega
     rw[this];simp only[List.all_cons,List.all_nil,Bool.and_true,ae];cases a<;>cases jl c.to<;>cases jl c.eR<;>cases jl c.len<;>rfl
   . have h2:c.kind=2:=by simpa[h1]using hb
     rw[if_neg h1,if_pos h2,if_neg h1];simp only[List.all_cons,List.all_nil,Bool.and_true,ae];by_cases hf:c.eR=0
     . simp only[hf,if_true];cases a<;>cases jl c.to<;>rfl
     . have:(c.eR == 0)=false:=by simpa using hf
       simp only[hf,if_false,this];cases a<;>cases jl c.to<;>rfl
 . unfold fW;dsimp only;rw[if_pos (by omega),iU h];simp only[ae];generalize d.bD[k]=c at*
   unfold GQ at hb;simp at hb;rw[if_neg hb.1,if_neg hb.2]
 . unfold fW;rw[if_neg (by simp)];simp
def lI(c:bK):List UInt8:=be 1 c.kind.toNat++(be 8 c.to.toNat++(if c.kind=1 then be 8 c.eR.toNat++be 8 c.len.toNat else be 8 c.data.length++c.data))
def Bw(d:cx):List UInt8:=lU++(be 1 1++(be 8 d.dj.toNat++(be 8 d.dw.toNat++(gl 32 d.fO++(gl 32 d.fN++be 4 d.bD.length)))))
def enc(d:cx):List UInt8:=Bw d++d.bD.flatMap lI
theorem iu{α:Type}(n:Nat)(f:Nat->α):(gl n f).length=n:=by simp[gl]
theorem zo(d:cx):(Bw d).length=89:=by simp[Bw,iP,iu,lU]
theorem rF{x:Int}(h:jl x=true):∃n:Nat,x=(n:Int)/\n<=4611686018427387903:=by
 unfold jl at h;simp at h;exact⟨x.toNat,by omega,by omega⟩
theorem uw{n:Nat}(h:n<=4611686018427387903):IntKind.u64.wrap (n:Int)=(n:Int):=Tp (by omega) (by omega)
structure BM(c:bK):Prop where
 k:c.kind=1\/c.kind=2
 to:∃n:Nat,c.to=(n:Int)/\n<=4611686018427387903
 copy:c.kind=1->∃f l:Nat,c.eR=(f:Int)/\f<=4611686018427387903/\c.len=(l:Int)/\l<=4611686018427387903/\c.data=[]
 lit:c.kind=2->c.eR=0/\c.len=0
theorem R3{c:bK}(hk:GQ c=true)(hc:HY c=true):BM c:=by
 unfold GQ at hk;unfold HY at hc;by_cases h1:c.kind=1
 . rw[if_pos h1]at hc;simp only[al,List.isEmpty_iff]at hc;obtain⟨f,e1,e2⟩:=rF hc.1.1.2;obtain⟨l,e3,e4⟩:=rF hc.1.2;exact⟨.inl h1,rF hc.1.1.1,fun _=>⟨f,l,e1,e2,e3,e4,hc.2⟩,fun k=>by omega⟩
 . have h2:c.kind=2:=by simpa[h1]using hk
   rw[if_neg h1]at hc;simp only[al,beq_iff_eq]at hc;exact⟨.inr h2,rF hc.1.1,fun k=>by omega,fun _=>⟨hc.1.2,hc.2⟩⟩
structure BN(d:cx):Prop where
 Xb:∃n:Nat,d.dj=(n:Int)/\n<=4611686018427387903
 new:∃n:Nat,d.dw=(n:Int)/\n<=4611686018427387903
 all:∀c∈d.bD,BM c
theorem UT{d:cx}(h:sI d=0):BN d:=by
 unfold sI at h;split at h
 . cases h
 . rename_i hk;split at h
   . rename_i hc;simp only[al]at hc;simp only[Bool.not_eq_false]at hk;exact⟨rF hc.1.1,rF hc.1.2,fun c hm=>R3 (aE.mp hk c hm) (aE.mp hc.2 c hm)⟩
   . cases h
theorem RP{α β:Type}(l:List α)(f:α->List β)(k:Nat)(h:k<l.length):((l.take k).flatMap f).length+(f l[k]).length<=(l.flatMap f).length:=by
 have e:l.flatMap f=(l.take k).flatMap f++(f l[k]++(l.drop (k+1)).flatMap f):=by
  conv=>lhs;rw[<- List.take_append_drop k l,List.drop_eq_getElem_cons h]
  rw[List.flatMap_append,List.flatMap_cons]
 rw[e];simp
theorem LX{α β:Type}(l:List α)(f:α->List β)(k:Nat)(h:k<l.length):(l.take (k+1)).flatMap f=(l.take k).flatMap f++f l[k]:=by
 rw[List.take_succ_eq_append_getElem h,List.flatMap_append];simp
end
section
open G
theorem Cs(n:Nat)(h:n<=4611686018427387903):dK (n:Int)=some ⟨(n:Int),8⟩:=by unfold dK;rw[uw h]
theorem TP{n:Nat}(h:n<=4611686018427387903):n<256 ^ 8:=by
 have:(256:Nat) ^ 8=18446744073709551616:=by decide
 omega
theorem VK(f:Nat->UInt8):((gl 32 f).drop (0:Int).toNat).take ((32:Int)-(0:Int)).toNat=gl 32 f:=by
 show((gl 32 f).drop 0).take 32=_;rw[List.drop_zero,bu (by rw[iu];exact Nat.le_refl _)]
theorem Wm:l9 (0<=(0:Int)/\(0:Int)<32/\(0:Int)<=(32:Int)/\(32:Int)<=32)=some ():=by unfold l9;rw[if_pos (by decide)]
theorem EK{d:cx}(h:BN d)(hw:sI d=0)(hn:d.bD.length<4294967296)(hs:(enc d).length<=140737488355328):ga d=some (enc d,0):=by
 unfold ga;have hl:(enc d).length=89+(d.bD.flatMap lI).length:=by unfold enc;rw[ay,zo]
 obtain⟨⟨n1,e1,b1⟩,⟨n2,e2,b2⟩,hall⟩:=h;rw[Rb d (by omega),hw];simp only[ae];rw[if_neg (by simp),e1,e2,Cs n1 b1,Cs n2 b2];simp only[ae];have hf:=KG [(1,1),(n1,8),(n2,8)] [71,82,70,84] (by simp;exact⟨TP b1,TP b2⟩) (by simp[dV,iP]) (by simp);rw[show([(⟨1,1⟩:cg),⟨(n1:Int),8⟩,⟨(n2:Int),8⟩]:List cg)=BB [(1,1),(n1,8),(n2,8)] from rfl,show([u8 71,u8 82,u8 70,u8 84]:List UInt8)=[71,82,70,84] from FN,hf];simp only[ae,Wm,VK];rw[n8 (by simp[dV,iP,iu])];simp only[ae];rw[n8 (by simp[dV,iP,iu])];simp only[ae];rw[uw (n:=d.bD.length) (by omega),show([(⟨(d.bD.length:Int),4⟩:cg)]:List cg)=BB [(d.bD.length,4)] from rfl];rw[KG _ _ (by simp;omega) (by simp[dV,iP,iu]) (by simp)];simp only[ae];have eH:(([71,82,70,84]:List UInt8)++dV [(1,1),(n1,8),(n2,8)]++gl 32 d.fO++gl 32 d.fN++dV [(d.bD.length,4)])=Bw d:=by
  unfold Bw;rw[e1,e2];simp[lU,dV]
 rw[eH];have hit:Iter (gY d) (Bw d,0)=some (enc d):=by
  refine iM d.bD.length (fun k=>(Bw d++(d.bD.take k).flatMap lI,(k:Int))) _ (fun k hk=>?_) ?_ (by simp)
  . have hfl:=RP d.bD lI k hk;unfold gY;dsimp only;rw[if_pos (by omega),iU hk,LX _ _ _ hk,sB hk (by omega)];simp only[ae];have g:=hall _ (bw hk);generalize d.bD[k]=c at*
    obtain⟨⟨t,et,bt⟩,hcp,hlt⟩:=And.intro g.to (And.intro g.copy g.lit);have hp:(Bw d++(d.bD.take k).flatMap lI).length+(lI c).length<=140737488355328:=by rw[ay,zo];omega
    obtain⟨kn,ekn,bkn⟩:∃n:Nat,c.kind=(n:Int)/\n<256:=by rcases g.k with k|k<;>exact⟨c.kind.toNat,by omega,by omega⟩
    rw[et,Cs t bt,ekn,uw (n:=kn) (by omega)];simp only[ae];by_cases h1:c.kind=1
    . obtain⟨f,l,ef,bf,el,bl,_⟩:=hcp h1;have hcl:(lI c).length=25:=by unfold lI;rw[if_pos h1];simp[iP]
      rw[if_pos (by omega),ef,el,Cs f bf,Cs l bl];simp only[ae];rw[n8 (by simp)];simp only[ae];rw[show([(⟨(kn:Int),1⟩:cg),⟨(t:Int),8⟩]:List cg)++[⟨(f:Int),8⟩,⟨(l:Int),8⟩]=BB [(kn,1),(t,8),(f,8),(l,8)] from rfl];rw[KG _ _ (by simp;exact⟨bkn,TP bt,TP bf,TP bl⟩) (by simp[dV,iP]at hp ⊢; omega) (by simp)];simp only[ae];rw[show lI c=be 1 kn++(be 8 t++(be 8 f++be 8 l))by unfold lI;rw[if_pos h1,et,ef,el,ekn];rfl];simp[dV]
    . have hcl:(lI c).length=17+c.data.length:=by unfold lI;rw[if_neg h1];simp[iP];omega
      rw[if_neg (by omega),Cs c.data.length (by omega)];simp only[ae];rw[n8 (by simp)];simp only[ae];rw[show([(⟨(kn:Int),1⟩:cg),⟨(t:Int),8⟩]:List cg)++[⟨(c.data.length:Int),8⟩]=BB [(kn,1),(t,8),(c.data.length,8)] from rfl];rw[KG _ _ (by simp;exact⟨bkn,TP bt,TP (by omega)⟩) (by simp[dV,iP]at hp ⊢; omega) (by simp)];simp only[ae];rw[n8 (by simp[dV,iP]at hp ⊢; omega)];simp only[ae];rw[show lI c=be 1 kn++(be 8 t++(be 8 c.data.length++c.data))by unfold lI;rw[if_neg h1,et,ekn];rfl];simp[dV]
  . unfold gY;rw[if_neg (by simp)];simp[enc]
 rw[hit];rfl
def vm(d:cx):Bool:=d.bD.all (fun c=>decide (c.data.length<=300))&&decide (d.bD.length<=40)
theorem T6(d:cx)(hn:d.bD.length<=9223372036854775807):ju d=some (vm d):=by
 unfold ju vm;have hK:=nm (f:=eS d) d.bD (fun c=>!decide (c.data.length<=300)) (fun k=>(k:Int)) (fun _=>.inr false) (.inl ()) (fun k h hb=>?_) (fun k h hb=>?_) ?_ (s:=0) rfl
 . rcases hK with⟨ha,he⟩|⟨k,h,hb,_,he⟩
   . have:d.bD.all (fun c=>decide (c.data.length<=300))=true:=by rw[aE];intro x hx;simpa using ha x hx
     rw[he,this];simp only[ae,nK,Bool.true_and];congr 1;rw[decide_eq_decide];omega
   . have:d.bD.all (fun c=>decide (c.data.length<=300))=false:=by rw[List.all_eq_false];exact⟨_,bw h,by simpa using hb⟩
     rw[he,this];rfl
 . unfold eS;rw[if_pos (by omega),iU h];simp only[ae];simp at hb;rw[if_neg (by omega),sB h hn]
 . unfold eS;rw[if_pos (by omega),iU h];simp only[ae];simp at hb;rw[if_pos (by omega)]
 . unfold eS;rw[if_neg (by omega)]
theorem RO{d:cx}(h:vm d=true):d.bD.length<=40/\(enc d).length<=100000:=by
 unfold vm at h;simp only[al,aR]at h;refine⟨h.2,?_⟩;have key:∀l:List bK,l.all (fun c=>decide (c.data.length<=300))=true->(l.flatMap lI).length<=l.length*400:=by
  intro l
  induction l with
  |nil=>intro _;simp
  |cons c l ih=>
   intro hl
   rw[List.all_cons]at hl
   simp only[al,aR]at hl
   have:=ih hl.2
   have hc:(lI c).length<=400:=by unfold lI;split<;>simp[iP]<;>omega
   rw[List.flatMap_cons,ay,bp];omega
 have:=key _ h.1;unfold enc;rw[ay,zo];omega
end
section
open G
open RS
structure Rd(s:RS)(rest:List UInt8):Prop where
 c:s.code=0
 p:s.pos=0
 a:s.at_<=s.bs.length
 d:s.bs.drop s.at_=rest
theorem Rd.len{s:RS}{l:List UInt8}(h:Rd s l):s.at_+l.length=s.bs.length:=by have:=h.a;rw[<- h.d,ba];omega
theorem Rd.take{s:RS}{l rest:List UInt8}(h:Rd s (l++rest)):s.take l.length=(some l,{s with at_:=s.at_+l.length})/\Rd {s with at_:=s.at_+l.length} rest:=by
 have hl:=h.len;rw[ay]at hl;refine⟨?_,h.c,h.p,by show s.at_+l.length<=s.bs.length;omega,?_⟩
 . rw[rV s h.c l.length (by omega),h.d,List.take_left]
 . show s.bs.drop (s.at_+l.length)=rest;rw[<- List.drop_drop,h.d,List.drop_left]
theorem Rd.uint{s:RS}{k v:Nat}{rest:List UInt8}(h:Rd s (be k v++rest))(h1:1<=k)(h8:k<=8)(hv:v<256 ^ k):∃s',s.uint k=(v,s')/\Rd s' rest/\s'.bs=s.bs:=by
 obtain⟨ht,hr⟩:=h.take;rw[iP]at ht hr;have hz:size k=k:=by unfold size;rw[if_neg (by omega)]
 refine⟨_,?_,hr,rfl⟩;rw[nW s (show(s.take (size k)).1=_ by rw[hz,ht]),hz,ht,OU hv]
theorem Rd.length{s:RS}{v:Nat}{rest:List UInt8}(h:Rd s (be 8 v++rest))(hv:v<=4611686018427387903):∃s',s.length=((v:Int),s')/\Rd s' rest/\s'.bs=s.bs:=by
 obtain⟨s',e,hr⟩:=h.uint (by decide) (by decide) (TP hv);refine⟨s',?_,hr⟩;unfold RS.length;rw[show s.uint 8=(v,s') from e,if_neg (by dsimp only;omega)]
theorem Rd.bytes{s:RS}{l rest:List UInt8}(h:Rd s (l++rest)):∃s',s.bytes l.length=(l,s')/\Rd s' rest/\s'.bs=s.bs:=by
 obtain⟨ht,hr⟩:=h.take;exact⟨_,by rw[yX s (show(s.take l.length).1=_ by rw[ht]),ht],hr,rfl⟩
theorem Rd.expect{s:RS}{l rest:List UInt8}(h:Rd s (l++rest))(c:Int):∃s',s.expect l c=(true,s')/\Rd s' rest/\s'.bs=s.bs:=by
 obtain⟨ht,hr⟩:=h.take;refine⟨_,?_,hr,rfl⟩;unfold RS.expect;rw[if_neg (by simp[h.c]),h.d,List.take_left,List.take_length,if_neg (by simp),ht];rfl
theorem Rd.cmd{s:RS}{c:bK}{rest:List UInt8}(hg:BM c)(hb:s.bs.length<=1099511627776)(h:Rd s (lI c++rest)):∃s',s.cmd=(c,s')/\Rd s' rest/\s'.bs=s.bs:=by
 obtain⟨t,et,bt⟩:=hg.to;unfold lI at h;obtain⟨kd,to,eR,len,data⟩:=c;dsimp only at*
 subst et;simp only[aK]at h;unfold RS.cmd;rcases hg.k with hk|hk<;>dsimp only at hk<;>subst hk
 . obtain⟨f,l,ef,bf,el,bl,ed⟩:=hg.copy rfl;dsimp only at ef el ed;subst ef el ed;rw[if_pos rfl]at h;simp only[az,aK]at h;obtain⟨s1,e1,r1,b1⟩:=h.uint (by decide) (by decide) (by decide);obtain⟨s2,e2,r2,b2⟩:=r1.length bt;obtain⟨s3,e3,r3,b3⟩:=r2.length bf;obtain⟨s4,e4,r4,b4⟩:=r3.length bl;refine⟨s4,?_,r4,by rw[b4,b3,b2,b1]⟩;have e1':s.uint 1=(1,s1):=e1;rw[e1',if_pos rfl];simp only[e2,e3,e4]
 . obtain⟨ef,el⟩:=hg.lit rfl;dsimp only at ef el;subst ef el;rw[if_neg (by decide)]at h;simp only[az]at h;have hd:data.length<=4611686018427387903:=by
    have:=h.len;simp only[ay]at this;omega
   obtain⟨s1,e1,r1,b1⟩:=h.uint (by decide) (by decide) (by decide);obtain⟨s2,e2,r2,b2⟩:=r1.length bt;obtain⟨s3,e3,r3,b3⟩:=r2.length hd;obtain⟨s4,e4,r4,b4⟩:=r3.bytes;refine⟨s4,?_,r4,by rw[b4,b3,b2,b1]⟩;have e1':s.uint 1=(2,s1):=e1;rw[e1',if_neg (by dsimp only;decide),if_pos rfl];simp only[e2,e3,e4]
theorem Rd.iw{rest:List UInt8}:∀(l:List bK) (s:RS) (acc:List bK),(∀c∈l,BM c)->s.bs.length<=1099511627776->Rd s (l.flatMap lI++rest)->∃s',RS.iw l.length s acc=(s',acc++l)/\Rd s' rest/\s'.bs=s.bs
 |[],s,acc,_,_,h=>⟨s,by simp[RS.iw],h,rfl⟩
 |c::l,s,acc,hg,hb,h=>by
  rw[List.flatMap_cons,az]at h;obtain⟨s1,e1,r1,b1⟩:=h.cmd (hg c (aq ..)) hb;obtain⟨s2,e2,r2,b2⟩:=Rd.iw l s1 (acc++[c]) (fun x hx=>hg x (ax _ hx)) (by rw[b1];exact hb) r1;refine⟨s2,?_,r2,by rw[b2,b1]⟩;rw[bp,RS.iw,if_pos h.c,e1,e2,az];rfl
theorem L5(f:Nat->UInt8)(i:Nat)(h:i<32):hash (gl 32 f) i=f i:=by
 unfold hash Jq;rw[if_pos ⟨h,by rw[iu];exact h⟩,yf _ _ _ (by rw[iu];exact h)];simp[gl]
theorem Rn{d:cx}(hg:BN d)(hn:d.bD.length<4294967296)(tail:List UInt8)(hb:(enc d++tail).length<=1099511627776):
 Rd (cl.s8 (enc d++tail)).1 tail/\cl.d (enc d++tail)=⟨d.dj,d.dw,hash (gl 32 d.fO),hash (gl 32 d.fN),d.bD⟩/\(cl.s8 (enc d++tail)).1.bs=enc d++tail:=by
 obtain⟨⟨n1,e1,b1⟩,⟨n2,e2,b2⟩,hall⟩:=hg
 have h0:Rd (cl.s0 (enc d++tail)) (enc d++tail):=⟨rfl,rfl,Nat.zero_le _,rfl⟩
 have hbs:(cl.s0 (enc d++tail)).bs=enc d++tail:=rfl
 generalize hB:enc d++tail=B at*
 have hB':B=lU++(be 1 1++(be 8 n1++(be 8 n2++(gl 32 d.fO++(gl 32 d.fN++(be 4 d.bD.length++(d.bD.flatMap lI++tail))))))):=by rw[<- hB];simp[enc,Bw,e1,e2]
 replace h0:Rd (cl.s0 B) _:=⟨h0.c,h0.p,h0.a,h0.d.trans hB'⟩
 obtain⟨t1,q1,r1,u1⟩:=h0.expect 9
 have q1':cl.s1 B=t1:=cl.a1.symm.trans (congrArg Prod.snd q1)
 obtain⟨t2,q2,r2,u2⟩:=r1.uint (by decide) (by decide) (by decide)
 have q2':cl.s2 B=t2:=by
  rw[cl.a2,q1',show t1.uint 1=(1,t2) from q2,if_neg (by simp)]
 obtain⟨t3,q3,r3,u3⟩:=r2.length b1
 have q3':cl.s3 B=t3:=by rw[<- cl.a3,q2',q3]
 obtain⟨t4,q4,r4,u4⟩:=r3.length b2
 have q4':cl.s4 B=t4:=by rw[<- cl.a4,q3',q4]
 obtain⟨t5,q5,r5,u5⟩:=r4.bytes
 rw[iu]at q5
 replace q5:t4.bytes 32=_:=q5
 have q5':cl.s5 B=t5:=by rw[<- cl.a5,q4',q5]
 obtain⟨t6,q6,r6,u6⟩:=r5.bytes
 rw[iu]at q6
 replace q6:t5.bytes 32=_:=q6
 have q6':cl.s6 B=t6:=by rw[<- cl.a6,q5',q6]
 obtain⟨t7,q7,r7,u7⟩:=r6.uint (by decide) (by decide) (by simpa using hn)
 replace q7:t6.uint 4=_:=q7
 have q7':cl.s7 B=t7:=by rw[<- cl.a7,q6',q7]
 have hbs7:t7.bs=B:=by rw[u7,u6,u5,u4,u3,u2,u1];exact hbs
 obtain⟨t8,q8,r8,u8⟩:=Rd.iw d.bD t7 [] hall (by rw[hbs7];exact hb) r7
 have q8':cl.s8 B=(t8,d.bD):=by rw[<- cl.a8,q6',q7,q7'];exact q8
 rw[q8']
 refine⟨r8,?_,by rw[u8,hbs7]⟩
 rw[cl.ad,q2',q3',q4',q5',q3,q4,q5,q6,q8',e1,e2]
theorem Rl{d:cx}(hg:BN d)(hn:d.bD.length<4294967296)(tail:List UInt8)(hb:(enc d++tail).length<=1099511627776):
 dec (enc d++tail)=if tail=[]then(⟨d.dj,d.dw,hash (gl 32 d.fO),hash (gl 32 d.fN),d.bD⟩,0,0)else(QJ,12,((enc d).length:Int)):=by
 obtain⟨hr,hd,hbs⟩:=Rn hg hn tail hb
 have hl:=hr.len
 rw[hbs,ay]at hl
 have ha:(cl.s8 (enc d++tail)).1.at_=(enc d).length:=by omega
 unfold dec
 rw[cl.a9,ha]
 cases tail with
 |nil=>have h1:¬ (enc d).length<(enc d++[]).length:=by simp
       rw[if_neg h1,if_neg (fun k=>k hr.c),if_pos rfl,hd]
 |cons x tail=>
  have h1:(enc d).length<(enc d++x::tail).length:=by simp
  rw[if_pos h1,if_pos (fY (by decide)),if_neg (by simp)]
  unfold RS.fail
  rw[if_pos ⟨hr.c,by decide⟩]
theorem vA{n:Nat}{s:RS}{l:List bK}(h:(RS.iw n s l).1.code=0):s.code=0:=by
 cases n with
 |zero=>exact h
 |succ n=>
  unfold RS.iw at h;split at h
  . assumption
  . exact h
def pU(s s':RS)(l:List UInt8):Prop:=s.bs.drop s.at_=l++s'.bs.drop s'.at_
theorem pU.trans{s s' s'':RS}{l l':List UInt8}(h:pU s s' l)(h':pU s' s'' l'):pU s s'' (l++l'):=by
 unfold pU at *; rw[h,h',az]
theorem XO{s:RS}{n:Nat}(h:s.at_+n<=s.bs.length):pU s {s with at_:=s.at_+n} ((s.bs.drop s.at_).take n):=by
 unfold pU;dsimp only;rw[<- List.drop_drop,List.take_append_drop]
theorem rZ{s:RS}{k:Nat}(h1:1<=k)(h8:k<=8)(hc:(s.uint k).2.code=0):s.code=0/\pU s (s.uint k).2 (be k (s.uint k).1):=by
 obtain⟨a,b,e⟩:=sa (by omega) (by omega) hc;refine⟨a,?_⟩;rw[e];have hl:((s.bs.drop s.at_).take (k:Int).toNat).length=k:=by simp;omega
 have:=Nh ((s.bs.drop s.at_).take (k:Int).toNat);rw[hl]at this;dsimp only;rw[this];exact XO (by simp;omega)
theorem gP{s:RS}(hc:s.length.2.code=0):s.code=0/\∃n:Nat,s.length.1=(n:Int)/\n<=4611686018427387903/\pU s s.length.2 (be 8 n):=by
 obtain⟨a,b,c,e⟩:=jc hc;refine⟨a,_,by rw[e],c,?_⟩;rw[e];have hl:((s.bs.drop s.at_).take 8).length=8:=by simp;omega
 have:=Nh ((s.bs.drop s.at_).take 8);rw[hl]at this;rw[this];exact XO (by omega)
theorem sQ{s:RS}{n:Int}(hc:(s.bytes n).2.code=0):s.code=0/\((s.bytes n).1.length:Int)=n/\pU s (s.bytes n).2 (s.bytes n).1:=by
 obtain⟨a,b,c,e⟩:=yW hc;refine⟨a,by rw[e];simp;omega,?_⟩;rw[e];exact XO (by omega)
theorem Ns{s:RS}(hc:s.cmd.2.code=0):BM s.cmd.1/\pU s s.cmd.2 (lI s.cmd.1):=by
 by_cases k1:(s.uint 1).1=1
 . have es:s.cmd=(⟨1,(s.uint 1).2.length.1,(s.uint 1).2.length.2.length.1,(s.uint 1).2.length.2.length.2.length.1,[]⟩,(s.uint 1).2.length.2.length.2.length.2):=by unfold RS.cmd;rw[if_pos k1]
   rw[es]at hc;obtain⟨c2,n3,l3,b3,x3⟩:=gP hc;obtain⟨c1,n2,l2,b2,x2⟩:=gP c2;obtain⟨c0,n1,l1,b1,x1⟩:=gP c1;obtain⟨_,x0⟩:=rZ (k:=1) (by decide) (by decide) c0;rw[es,l1,l2,l3];refine⟨⟨.inl rfl,⟨n1,rfl,b1⟩,fun _=>⟨n2,n3,rfl,b2,rfl,b3,rfl⟩,fun k=>absurd (show(1:Int)=2 from k) (by decide)⟩,?_⟩;rw[show((s.uint ((1:Nat):Int)).1)=1 from k1]at x0;exact x0.trans (x1.trans (x2.trans x3))
 . by_cases k2:(s.uint 1).1=2
   . have es:s.cmd=(⟨2,(s.uint 1).2.length.1,0,0,((s.uint 1).2.length.2.length.2.bytes (s.uint 1).2.length.2.length.1).1⟩,((s.uint 1).2.length.2.length.2.bytes (s.uint 1).2.length.2.length.1).2):=by unfold RS.cmd;rw[if_neg k1,if_pos k2]
     rw[es]at hc;obtain⟨c2,l3,x3⟩:=sQ hc;obtain⟨c1,n2,l2,b2,x2⟩:=gP c2;obtain⟨c0,n1,l1,b1,x1⟩:=gP c1;obtain⟨_,x0⟩:=rZ (k:=1) (by decide) (by decide) c0;rw[es];rw[show((s.uint ((1:Nat):Int)).1)=2 from k2]at x0;generalize ((s.uint 1).2.length.2.length.2.bytes (s.uint 1).2.length.2.length.1)=z at*
     rw[l2]at l3;have l3':z.1.length=n2:=by omega
     rw[l1];refine⟨⟨.inr rfl,⟨n1,rfl,b1⟩,fun k=>absurd (show(2:Int)=1 from k) (by decide),fun _=>⟨rfl,rfl⟩⟩,?_⟩;rw[<- l3']at x2;exact x0.trans (x1.trans (x2.trans x3))
   . have:s.cmd=(⟨0,0,0,0,[]⟩,(s.uint 1).2.fail 11 s.at_):=by unfold RS.cmd;rw[if_neg k1,if_neg k2]
     rw[this]at hc;exact absurd hc (fY (by decide))
theorem BT:∀(n:Nat) (s:RS) (acc:List bK),(RS.iw n s acc).1.code=0->∃l,(RS.iw n s acc).2=acc++l/\l.length=n/\(∀c∈l,BM c)/\pU s (RS.iw n s acc).1 (l.flatMap lI)
 |0,s,acc,_=>⟨[],by simp[RS.iw],rfl,by simp,rfl⟩
 |n+1,s,acc,hc=>by
  have h0:=vA hc;unfold RS.iw at hc ⊢;rw[if_pos h0]at hc ⊢;obtain⟨g,x⟩:=Ns (vA hc);obtain⟨l,e,hl,hg,y⟩:=BT n _ _ hc;refine⟨s.cmd.1::l,by rw[e];simp,by simp[hl],fun c hm=>?_,?_⟩
  . rcases aB.mp hm with rfl|hm
    . exact g
    . exact hg c hm
  . rw[List.flatMap_cons];exact x.trans y
theorem BR(l:List UInt8)(h:l.length=32):gl 32 (hash l)=l:=by
 apply List.ext_getElem
 . rw[iu,h]
 . intro i h1 h2;simp only[gl,List.getElem_map,List.getElem_range];unfold hash Jq;rw[if_pos ⟨by omega,h2⟩,yf _ _ _ h2]
theorem HE{d:cx}(h:BN d):sI d=0:=by
 obtain⟨⟨n1,e1,b1⟩,⟨n2,e2,b2⟩,hall⟩:=h;have hk:d.bD.all GQ=true:=by
  rw[aE];intro c hc;have:=(hall c hc).k;unfold GQ;rcases this with k|k<;>rw[k]<;>rfl
 have hm:∀n:Nat,n<=4611686018427387903->jl (n:Int)=true:=fun n hn=>by unfold jl;simp;omega
 have ho:d.bD.all HY=true:=by
  rw[aE];intro c hc;have g:=hall c hc;obtain⟨t,et,bt⟩:=g.to;unfold HY;rw[et,hm t bt];rcases g.k with k|k
  . obtain⟨f,l,ef,bf,el,bl,ed⟩:=g.copy k;rw[if_pos k,ef,el,hm f bf,hm l bl,ed];rfl
  . obtain⟨ef,el⟩:=g.lit k;rw[if_neg (by omega),ef,el];rfl
 unfold sI;rw[hk,if_neg (by simp),ho,e1,e2,hm _ b1,hm _ b2];rfl
theorem RA{b:List UInt8}(h:(cl.s9 b).code=0):BN (cl.d b)/\enc (cl.d b)=b/\(cl.d b).bD.length<4294967296:=by
 have hx:¬ (cl.s8 b).1.at_<b.length:=fun k=>by
  rw[cl.a9,if_pos k]at h;exact absurd h (fY (by decide))
 have c8:(cl.s8 b).1.code=0:=by rw[cl.a9,if_neg hx]at h;exact h
 obtain⟨l,el,hl,hg,x8⟩:=BT _ _ _ (by rw[cl.a8];exact c8);rw[cl.a8]at el x8;have c7:(cl.s7 b).code=0:=by rw[<- cl.a8]at c8;exact vA c8
 obtain⟨c6,x7⟩:=rZ (s:=cl.s6 b) (k:=4) (by decide) (by decide) (by show((cl.s6 b).uint 4).2.code=0;rw[cl.a7];exact c7);obtain⟨c5,l6,x6⟩:=sQ (s:=cl.s5 b) (n:=32) (by rw[cl.a6];exact c6);obtain⟨c4,l5,x5⟩:=sQ (s:=cl.s4 b) (n:=32) (by rw[cl.a5];exact c5);obtain⟨c3,n2,e2,b2,x4⟩:=gP (s:=cl.s3 b) (by rw[cl.a4];exact c4);obtain⟨c2,n1,e1,b1,x3⟩:=gP (s:=cl.s2 b) (by rw[cl.a3];exact c3);have v1:((cl.s1 b).uint 1).1=1:=by
  rw[cl.a2]at c2;split at c2
  . exact absurd c2 (fY (by decide))
  . rename_i x;simpa using x
 have e2':cl.s2 b=((cl.s1 b).uint 1).2:=by rw[cl.a2,if_neg (by simpa using v1)]
 obtain⟨c1,x2⟩:=rZ (s:=cl.s1 b) (k:=1) (by decide) (by decide) (by show((cl.s1 b).uint 1).2.code=0;rw[<- e2'];exact c2);replace x2:pU (cl.s1 b) ((cl.s1 b).uint 1).2 (be 1 ((cl.s1 b).uint 1).1):=x2;rw[v1,<- e2']at x2;have x1:pU (cl.s0 b) (cl.s1 b) lU:=by
  have c1':=c1;rw[<- cl.a1]at c1' ⊢;show pU _ ((cl.s0 b).expect lU 9).2 lU;replace c1':((cl.s0 b).expect lU 9).2.code=0:=c1';unfold RS.expect at c1' ⊢;rw[if_neg (by simp[cl.s0])]at c1' ⊢;by_cases hp:((cl.s0 b).bs.drop (cl.s0 b).at_).take lU.length=lU.take (((cl.s0 b).bs.drop (cl.s0 b).at_).take lU.length).length
  . rw[if_neg (by simpa using hp)]at c1' ⊢;obtain⟨_,_,g3,g4⟩:=rU c1';have hX:((cl.s0 b).bs.drop (cl.s0 b).at_).take lU.length=lU:=by
     rw[hp,bu];simp;omega
    rw[g4]
    conv=>rhs;rw[<- hX]
    exact XO (by simp;omega)
  . rw[if_pos hp]at c1';exact absurd c1' (fY (by decide))
 replace x7:pU (cl.s6 b) ((cl.s6 b).uint 4).2 (be 4 ((cl.s6 b).uint 4).1):=x7;rw[cl.a7]at x7;rw[cl.a6]at x6;rw[cl.a5]at x5;rw[cl.a4]at x4;rw[cl.a3]at x3;have all:=x1.trans (x2.trans (x3.trans (x4.trans (x5.trans (x6.trans (x7.trans x8))))));unfold pU at all;rw[cl.b8,show b.drop (cl.s8 b).1.at_=[] from List.drop_of_length_le (by omega),show(cl.s0 b).bs.drop (cl.s0 b).at_=b from rfl]at all;rw[cl.ad];rw[aL]at el;refine⟨⟨⟨n1,e1,b1⟩,⟨n2,e2,b2⟩,by rw[el];exact hg⟩,?_,?_⟩
 . unfold enc Bw;dsimp only;rw[e1,e2,el,BR _ (by omega),BR _ (by omega),hl]
   conv=>rhs;rw[all]
   simp
 . rw[el,hl];exact GH _
end
section
open G
open RS
theorem YF(x:Int):eu x=some (jl x):=by
 unfold eu lL jl;by_cases h:x≥0
 . rw[if_pos h];simp only[ae];congr 1;rw[decide_eq_decide];omega
 . rw[if_neg h];congr 1;symm;rw[bB];omega
def Aq(c:bK):Bool:=!(jl c.to&&jl c.eR&&jl c.len)||(if c.kind=1 then !c.data.isEmpty else if c.kind=2 then !(c.eR == 0&&c.len == 0)else false)
theorem YN(d:cx)(k:Nat)(h:k<d.bD.length)(hn:d.bD.length<=9223372036854775807){x:Int⊕Int}(hx:(if Aq d.bD[k]=true then Sum.inr 2 else Sum.inl ((k+1:Nat):Int))=x):ea d (k:Int)=some x:=by
 subst hx;unfold ea;rw[if_pos (by omega),iU h];simp only[ae,YF];generalize d.bD[k]=c;rw[sB h hn];have e:((c.data.length:Int)>0)↔¬ c.data.isEmpty=true:=by cases c.data<;>simp<;>omega
 unfold Aq;simp only[e];by_cases h1:c.kind=1
 . have h2:¬ c.kind=2:=by omega
   simp only[h1,if_true];cases jl c.to<;>cases jl c.eR<;>cases jl c.len<;>cases c.data.isEmpty<;>rfl
 . simp only[h1,if_false];by_cases h2:c.kind=2
   . simp only[h2,if_true];by_cases hf:c.eR=0
     . simp only[hf,ne_eq,not_true,if_false];have:(c.len !=0)=!(c.len == 0):=rfl;rw[this];cases jl c.to<;>cases jl 0<;>cases jl c.len<;>cases(c.len == 0)<;>rfl
     . have:(c.eR == 0)=false:=by simpa using hf
       simp only[hf,ne_eq,not_false_iff,if_true,this];cases jl c.to<;>cases jl c.eR<;>cases jl c.len<;>rfl
   . simp only[h2,if_false];cases jl c.to<;>cases jl c.eR<;>cases jl c.len<;>rfl
theorem QS(d:cx)(hn:d.bD.length<=9223372036854775807):gZ d=some (sI d):=by
 unfold gZ sI;have hK:=nm (f:=dZ d) d.bD (fun c=>!GQ c) (fun k=>(k:Int)) (fun _=>.inr 11) (.inl ()) (fun k h hb=>?_) (fun k h hb=>?_) ?_ (s:=0) rfl
 . rcases hK with⟨ha,he⟩|⟨k,h,hb,_,he⟩
   . have hall:d.bD.all GQ=true:=by rw[aE];intro x hx;simpa using ha x hx
     rw[he,hall,if_neg (by simp)];simp only[ae,nK,YF];have e2:∀F:Bool->Option Int,((if jl d.dj=false then some true else some (!jl d.dw)):Option Bool).bind F=F (!(jl d.dj&&jl d.dw)):=fun F=>by
      cases jl d.dj<;>rfl
     rw[e2];by_cases h2:(jl d.dj&&jl d.dw)=true
     . rw[h2,if_neg (by simp)];have hR:=nm (f:=ea d) d.bD Aq (fun k=>(k:Int)) (fun _=>2) 0 (fun k h hb=>?_) (fun k h hb=>?_) ?_ (s:=0) rfl
       . have hc:∀c∈d.bD,Aq c=!HY c:=by
          intro c hc;have hk:=aE.mp hall c hc;unfold GQ at hk;unfold Aq HY;by_cases h1:c.kind=1
          . rw[if_pos h1,if_pos h1];cases jl c.to<;>cases jl c.eR<;>cases jl c.len<;>simp
          . have h2:c.kind=2:=by simpa[h1]using hk
            rw[if_neg h1,if_pos h2,if_neg h1];by_cases hf:c.eR=0
            . by_cases hl:c.len=0
              . simp[hf,hl,jl]
              . have:(c.len == 0)=false:=by simpa using hl
                simp[this]
            . have:(c.eR == 0)=false:=by simpa using hf
              simp[this]
         rcases hR with⟨ha,he⟩|⟨k,h,hb,_,he⟩
         . have:d.bD.all HY=true:=by rw[aE];intro x hx;have:=ha x hx;rw[hc x hx]at this;simpa using this
           rw[he,this];rfl
         . have:d.bD.all HY=false:=by
            rw[List.all_eq_false];refine⟨_,bw h,?_⟩;rw[hc _ (bw h)]at hb;simpa using hb
           rw[he,this];rfl
       . exact YN d k h hn (by rw[hb];rfl)
       . exact YN d k h hn (by rw[hb];rfl)
       . unfold ea;rw[if_neg (by omega)]
     . rw[if_neg (show ¬ (jl d.dj&&jl d.dw&&d.bD.all HY)=true by simp only[al]at h2 ⊢; exact fun k=>h2 k.1)];rw[show(jl d.dj&&jl d.dw)=false by simpa using h2];rfl
   . have:d.bD.all GQ=false:=by rw[List.all_eq_false];exact⟨_,bw h,by simpa using hb⟩
     rw[he,this];rfl
 . unfold dZ;rw[if_pos (by omega),iU h];simp only[ae];generalize d.bD[k]=c at*
   rw[sB h hn];unfold GQ at hb;by_cases h1:c.kind=1
   . simp[h1]
   . have h2:c.kind=2:=by simpa[h1]using hb
     simp[h2]
 . unfold dZ;rw[if_pos (by omega),iU h];simp only[ae];generalize d.bD[k]=c at*
   unfold GQ at hb;simp at hb;simp[hb.1,hb.2]
 . unfold dZ;rw[if_neg (by omega)]
end
section
open G
namespace G
abbrev cat(l:List bK)(i:Nat):bK:=l.getD i default
theorem w7{l:List bK}{i:Nat}(h:i<l.length):cat l i=l[i]:=by simp[cat,h]
end G
end
section
open G
namespace G
theorem M3(a b:bK):iG a b=some (decide (a=b)):=by
 unfold iG;obtain⟨a1,a2,a3,a4,a5⟩:=a;obtain⟨b1,b2,b3,b4,b5⟩:=b;simp only[bK.mk.injEq];by_cases h1:a1=b1
 . by_cases h2:a2=b2
   . by_cases h3:a3=b3
     . by_cases h4:a4=b4<;>simp[h1,h2,h3,h4]
     . simp[h1,h2,h3]
   . simp[h1,h2]
 . simp[h1]
theorem FK{a b:List bK}(hl:a.length=b.length):(∀i,i<a.length->cat a i=cat b i)↔a=b:=by
 constructor
 . intro h;refine List.ext_getElem hl fun i h1 h2=>?_
   rw[<- w7 h1,<- w7 h2];exact h i h1
 . rintro rfl i _;rfl
theorem Sf{f:Int->Option (Int⊕Bool)}{a b:List bK}(hl:a.length=b.length)(hf:∀k:Nat,f (k:Int)=if k<a.length then some (if cat a k=cat b k then .inl ((k+1:Nat):Int)else .inr false)else some (.inr true)):Iter f 0=some (decide (a=b)):=by
 have hK:=BO (f:=f) (List.range a.length) (fun k=>decide (cat a k≠cat b k)) (fun k=>(k:Int)) (fun _=>false) true
  (fun k h hb=>by
   have hb':cat a k=cat b k:=by simpa using hb
   simp at h;rw[hf,if_pos h,if_pos hb'])
  (fun k h hb=>by
   have hb':¬ cat a k=cat b k:=by simpa using hb
   simp at h;rw[hf,if_pos h,if_neg hb'])
  (by rw[hf,if_neg (by simp)]) (s:=0) rfl
 rcases hK with⟨ha,he⟩|⟨k,h,hb,_,he⟩
 . rw[he];congr 1;symm;rw[aR];exact(FK hl).1 fun i hi=>by simpa using ha i (List.mem_range.2 hi)
 . simp at h hb;rw[he];congr 1;symm;rw[bB];exact fun e=>hb ((FK hl).2 e k h)
theorem T1(a b:List bK)(hn:a.length<=9223372036854775807):jt a b=some (decide (a=b)):=by
 unfold jt;by_cases hl:a.length=b.length
 . rw[if_neg (by simp;omega)];refine Sf hl fun k=>?_
   unfold mA;by_cases hk:k<a.length
   . rw[if_pos (by omega),if_pos hk,Fz default hk,Fz default (show k<b.length by omega)];simp only[ae,M3];by_cases h:cat a k=cat b k
     . rw[if_neg (by simpa using h),if_pos h,sB hk hn]
     . rw[if_pos (by simpa using h),if_neg h]
   . rw[if_neg (by omega),if_neg hk]
 . rw[if_pos (by omega)];congr 1;symm;rw[bB];exact fun e=>hl (by rw[e])
def sm(a b:cx):Bool:=decide (a.dj=b.dj)&&decide (a.dw=b.dw)&&ic a.fO b.fO&&ic a.fN b.fN&&decide (a.bD=b.bD)
theorem M4(a b:cx)(hn:a.bD.length<=9223372036854775807):iH a b=some (sm a b):=by
 unfold iH sm;rw[T1 _ _ hn];by_cases h1:a.dj=b.dj
 . by_cases h2:a.dw=b.dw
   . cases h3:ic a.fO b.fO
     . simp[h1,h2]
     . cases h4:ic a.fN b.fN<;>simp[h1,h2]
   . simp[h1,h2]
 . simp[h1]
end G
namespace G
section
variable {N M:Int}{c:bK}{o n:Int}
theorem Lf(a b:List UInt8)(hn:a.length<=9000000000000000000):dn a b=some (decide (a=b)):=by
 unfold dn;by_cases hl:a.length=b.length
 . rw[if_neg (by omega)];have hs:∀k (h:k<a.length),cN a b (k:Int)=some (if a[k]=b[k]'(by omega)then .inl ((k+1:Nat):Int)else .inr false):=fun k h=>by
    unfold cN;rw[if_pos (by omega),iU h,iU (l:=b) (by omega)];simp only[ae,sB h (by omega)];by_cases e:a[k]=b[k]'(by omega)
    . rw[if_pos e,if_neg (by rw[e];simp)]
    . rw[if_neg e,if_pos];intro e';exact e (UInt8.toNat_inj.1 (by omega))
   rcases BO (f:=cN a b) (List.range a.length) (fun k=>decide (a.getD k 0≠b.getD k 0)) (fun k=>(k:Int)) (fun _=>false) true
    (fun k h hb=>by
     simp only[List.length_range]at h;simp only[List.getElem_range,List.getD_eq_getElem?_getD,List.getElem?_eq_getElem h,List.getElem?_eq_getElem (show k<b.length by omega),Option.getD_some,bB,ne_eq,Decidable.not_not]at hb;rw[hs k h,if_pos hb])
    (fun k h hb=>by
     simp only[List.length_range]at h;simp only[List.getElem_range,List.getD_eq_getElem?_getD,List.getElem?_eq_getElem h,List.getElem?_eq_getElem (show k<b.length by omega),Option.getD_some,aR,ne_eq]at hb;rw[hs k h,if_neg hb])
    (by unfold cN;rw[if_neg (by simp)]) (s:=0) rfl with⟨hall,he⟩|⟨k,h,hb,_,he⟩
   . rw[he];congr 1;symm;rw[aR];refine List.ext_getElem hl fun i h1 h2=>?_
     have:=hall i (by simp;exact h1);simpa[h1,h2]using this
   . rw[he];congr 1;symm;rw[bB];rintro rfl;simp at hb
 . rw[if_pos (by omega)];congr 1;symm;rw[bB];intro h;rw[h]at hl;exact hl rfl
end
end G
open RS
theorem Um{b:List UInt8}:((dec b).2.1=0/\(dec b).2.2=0/\(dec b).1=cl.d b/\(cl.s9 b).code=0)\/((dec b).2.1≠0/\(dec b).1=QJ/\(dec b).2.1=(cl.s9 b).code/\(dec b).2.2=(cl.s9 b).pos):=by
 unfold dec;by_cases h:(cl.s9 b).code=0
 . rw[if_neg (by simp[h])];exact .inl ⟨rfl,rfl,rfl,h⟩
 . rw[if_pos h];exact .inr ⟨h,rfl,rfl,rfl⟩
def In(s:RS):Prop:=s.at_<=s.bs.length/\0<=s.pos/\s.pos<=s.bs.length
theorem In.fail{s:RS}(h:In s){c p:Int}(hp:0<=p/\p<=s.bs.length):In (s.fail c p):=by
 unfold RS.fail;split
 . exact⟨h.1,hp⟩
 . exact h
theorem In.take{s:RS}(h:In s)(n:Int):In (s.take n).2:=by
 have h1:=h.1;unfold RS.take;split
 . exact h
 . split
   . exact h.fail (by omega)
   . split
     . exact h.fail (by omega)
     . exact⟨by dsimp only;omega,h.2⟩
theorem In.uint{s:RS}(h:In s)(n:Int):In (s.uint n).2:=by rw[qV];exact h.take _
theorem In.bytes{s:RS}(h:In s)(n:Int):In (s.bytes n).2:=by rw[nv];exact h.take _
theorem In.length{s:RS}(h:In s):In s.length.2:=by
 have h1:=h.1;unfold RS.length;split
 . exact(h.uint 8).fail (by rw[jB];omega)
 . exact h.uint 8
theorem In.expect{s:RS}(h:In s)(l:List UInt8)(c:Int):In (s.expect l c).2:=by
 have h1:=h.1;unfold RS.expect;split
 . exact h
 . split
   . exact h.fail (by omega)
   . exact h.take _
theorem In.cmd{s:RS}(h:In s):In s.cmd.2:=by
 have h1:=h.1;unfold RS.cmd;split
 . exact(h.uint 1).length.length.length
 . split
   . exact(h.uint 1).length.length.bytes _
   . exact(h.uint 1).fail (by rw[jB];omega)
theorem In.iw:∀{n:Nat} {s:RS} {l:List bK},In s->In (RS.iw n s l).1
 |0,_,_,h=>h
 |n+1,s,l,h=>by
  unfold RS.iw;split
  . exact h.cmd.iw
  . exact h
theorem Vz{b:List UInt8}(h:b.length<=1099511627776):0<=(cl.s9 b).pos/\(cl.s9 b).pos<=b.length:=by
 have i0:In (cl.s0 b):=⟨Nat.zero_le _,by show(0:Int)<=0;omega,by show(0:Int)<=_;omega⟩;have i1:In (cl.s1 b):=by rw[<- cl.a1];exact i0.expect _ _
 have i2:In (cl.s2 b):=by
  rw[cl.a2];split
  . by_cases hc:((cl.s1 b).uint 1).2.code=0
    . have hb:((cl.s1 b).uint 1).2.bs=b:=by rw[jB,<- cl.a1,rB];rfl
      have hb1:(cl.s1 b).bs=b:=by rw[<- cl.a1,rB];rfl
      obtain⟨c1,g,_⟩:=sa (by decide) (by decide) hc;rw[hb1]at g;refine(i1.uint 1).fail ?_;rw[hb];have:4<=(cl.s1 b).at_:=by
       rw[<- cl.a1]at c1 ⊢;unfold RS.expect at c1 ⊢;rw[if_neg (by simp[cl.s0])]at c1 ⊢;split at c1
       . exact absurd c1 (fY (by decide))
       . rename_i hx;rw[if_neg hx];obtain⟨_,_,_,g4⟩:=rU c1;rw[g4];show 4<=0+4;omega
      omega
    . rw[NZ _ hc];exact i1.uint 1
  . exact i1.uint 1
 have i3:In (cl.s3 b):=by rw[<- cl.a3];exact i2.length
 have i4:In (cl.s4 b):=by rw[<- cl.a4];exact i3.length
 have i5:In (cl.s5 b):=by rw[<- cl.a5];exact i4.bytes 32
 have i6:In (cl.s6 b):=by rw[<- cl.a6];exact i5.bytes 32
 have i7:In (cl.s7 b):=by rw[<- cl.a7];exact i6.uint 4
 have i8:In (cl.s8 b).1:=by rw[<- cl.a8];exact i7.iw
 have i9:In (cl.s9 b):=by
  rw[cl.a9];split
  . exact i8.fail (by have:=i8.1;omega)
  . exact i8
 have e:(cl.s9 b).bs=b:=by
  rw[cl.a9];split
  . rw[(gC _ _ _).1,cl.b8]
  . exact cl.b8
 have:=i9.2;rwa[e]at this
end
section
open G
namespace G
theorem SN{b:List UInt8}(h:b.length<=1500):((fZ b).bind fun y10=>
 if(decide (y10.2.code=(0:Int)/\y10.2.at_=(0:Int)))=false then
  (
   (ew).bind fun y12=>
   if y12=true then
    if y10.2.at_≥(0:Int)then
     if y10.2.at_<=(b.length:Int)then
      some (y10.2.code !=(0:Int))
     else
      some false
    else
     some false
   else
    some false).bind fun v11=>
  some v11
 else
  (ga y10.1).bind fun y13=>
  (ew).bind fun y14=>
  if y14=true then
   if y13.2=(0:Int)then
    (dn y13.1 b).bind fun y15=>
    some y15
   else
    some false
  else
   some false)=some true:=by
 have hr:ew=some true:=rfl
 rw[EJ (by omega)]
 simp only[ae,hr]
 rcases Um (b:=b)with⟨e1,e2,e3,h9⟩|⟨e1,e3,e4,e5⟩
 . rw[e1,e2,e3]
   simp only[and_self,decide_true,Bool.true_eq_false,if_false]
   obtain⟨g,e,hn⟩:=RA h9
   rw[EK g (HE g) hn (by rw[e];omega),e]
   simp only[ae,if_true]
   rw[Lf _ _ (by omega)]
   simp
 . have hp:=Vz (b:=b) (by omega)
   rw[<- e5]at hp
   rw[show decide ((dec b).2.1=0/\(dec b).2.2=0)=false by simp[e1]]
   rw[if_pos rfl]
   simp only[if_true]
   rw[if_pos hp.1,if_pos hp.2]
   simp[e1]
end G
theorem G.lM(a0:cx)(a1:List UInt8)(h0:cx.Ok a0)(h1:XK a1):gu a0 a1=some true:=by
 have hr:ew=some true:=rfl;have hn:=h0.2.2.1;unfold XK at hn h1;unfold gu;rw[T6 a0 hn];simp only[ae]
 cases hf:vm a0 with
 |false=>simp[hr]
 |true=>
  simp only[Bool.true_eq_false,if_false,ae]
  by_cases hl:(a1.length:Int)>1500
  . rw[decide_eq_true hl];simp[hr]
  . rw[decide_eq_false hl]
    simp only[aN,if_false]
    have ht:=SN (b:=a1) (by omega)
    obtain⟨hc,he⟩:=RO hf
    rw[QS a0 hn]
    simp only[ae]
    by_cases hw:sI a0=0
    . rw[if_pos hw]
      have hg:=UT hw
      rw[EK hg hw (by omega) (by omega)]
      simp only[ae]
      rw[EJ (by omega)]
      have hd:=Rl hg (by omega) [] (by simpa using(by omega:(enc a0).length<=1099511627776))
      rw[aU,if_pos rfl]at hd
      rw[hd]
      simp only[ae,ne_eq,not_true,if_false,and_self,decide_true,Bool.true_eq_false]
      have hsm:sm (⟨a0.dj,a0.dw,hash (gl 32 a0.fO),hash (gl 32 a0.fN),a0.bD⟩:cx) a0=true:=by
       have hh:∀f:Nat->UInt8,ic (hash (gl 32 f)) f=true:=fun f=>by
        unfold ic;rw[aE];intro i hi;rw[L5 f i (List.mem_range.1 hi)];simp
       unfold sm;simp only[decide_true,Bool.true_and,hh]
      rw[M4 (⟨a0.dj,a0.dw,hash (gl 32 a0.fO),hash (gl 32 a0.fN),a0.bD⟩:cx) a0 hn,hsm]
      simp only[ae,Bool.true_eq_false,if_false,nK]
      exact ht
    . rw[if_neg hw]
      simp only[ae,nK]
      exact ht
end
section
open G
namespace G
def key(l:List bK)(x:Int):Int:=(l.getD x.toNat default).to
end G
end
section
open Go.RowKit
structure Mem where
 w:World
 im:Nat->Nat->Prop
def Mem.ok(m:Mem)(b o:Nat):Prop:=m.im b o/\b<m.w.heap.size
structure Le(m m':Mem):Prop where
 os:m'.w.os=m.w.os
 tape:m'.w.tape=m.w.tape
 output:m'.w.output=m.w.output
 size:m.w.heap.size<=m'.w.heap.size
 same:∀b o,m.ok b o->m'.ok b o/\m'.w.cell? ⟨b,o,none⟩=m.w.cell? ⟨b,o,none⟩
theorem Le.refl(m:Mem):Le m m:=⟨rfl,rfl,rfl,Nat.le_refl _,fun _ _ h=>⟨h,rfl⟩⟩
theorem Le.trans{a b c:Mem}(h:Le a b)(k:Le b c):Le a c:=
 ⟨k.os.trans h.os,k.tape.trans h.tape,k.output.trans h.output,Nat.le_trans h.size k.size,fun x o hx=>
  ⟨(k.same x o (h.same x o hx).1).1,((k.same x o (h.same x o hx).1).2).trans (h.same x o hx).2⟩⟩
structure bM where
 blocks:List Nat
 HA:Nat->Nat->Prop
 ok:World->Prop
 lt:∀w,ok w->∀b∈blocks,b<w.heap.size
 loc:∀w w',ok w->(∀b∈blocks,w'.heap[b]?=w.heap[b]?)->ok w'
theorem jW{w:World}{b:Nat}{o:Obj}(h:w.heap[b]?=some o):b<w.heap.size:=(Array.getElem?_eq_some_iff.1 h).1
def bM.box(b:Nat)(cs:Array Value)(T:TypeId):bM:=
 ⟨[b],fun _ _=>True,fun w=>w.heap[b]?=some (.cells cs T (0,0)),fun w h c hc=>by simp at hc;subst hc;exact jW h,
  fun w w' h hs=>by rw[hs b (by simp)];exact h⟩
def bM.obj(b:Nat)(o:Obj):bM:=
 ⟨[b],fun _ _=>True,fun w=>w.heap[b]?=some o,fun w h c hc=>by simp at hc;subst hc;exact jW h,
  fun w w' h hs=>by rw[hs b (by simp)];exact h⟩
def bM.row(g:Option Nat)(T:TypeId)(size n:Nat):bM:=
 ⟨g.toList,fun _ o=>n<=o,fun w=>∀b,g=some b->∃cur,w.heap[b]?=some (.cells cur T (0,0))/\cur.size=size,
  fun w h c hc=>by
   have:g=some c:=by cases g<;>simp_all
   obtain⟨cur,h1,_⟩:=h c this;exact jW h1,
  fun w w' h hs b hb=>by
   obtain⟨cur,h1,h2⟩:=h b hb;exact⟨cur,by rw[hs b (by rw[hb];simp)];exact h1,h2⟩⟩
def bF(L:List bM):List Nat:=L.flatMap (·.blocks)
@[simp] theorem Q4:bF []=[]:=rfl
@[simp] theorem dJ(e:bM)(L:List bM):bF (e::L)=e.blocks++bF L:=rfl
@[simp] theorem cv(L R:List bM):bF (L++R)=bF L++bF R:=by simp[bF]
theorem cC{L:List bM}{b:Nat}:b∈bF L↔∃e∈L,b∈e.blocks:=by simp[bF]
structure Ow(m:Mem)(L:List bM):Prop where
 nodup:(bF L).Nodup
 ok:∀e∈L,e.ok m.w
 apart:∀e∈L,∀b∈e.blocks,∀o,e.HA b o->¬ m.ok b o
structure St(B:List Nat)(m0 m:Mem)(L:List bM):Prop where
 le:Le m0 m
 kept:∀b,b<m0.w.heap.size->b ∉ B->m.w.heap[b]?=m0.w.heap[b]?
 news:∀b o,m.ok b o->m0.ok b o\/m0.w.heap.size<=b\/b∈B
 ow:Ow m L
 kj:∀b∈bF L,b∈B\/m0.w.heap.size<=b
section
variable {B:List Nat}{m0 m m':Mem}{L R L':List bM}{e e':bM}
theorem St.refl(h:Ow m L):St (bF L) m m L:=
 ⟨Le.refl m,fun _ _ _=>rfl,fun _ _ h=>.inl h,h,fun _ h=>.inl h⟩
theorem Ow.lt(h:Ow m L){b:Nat}(hb:b∈bF L):b<m.w.heap.size:=by
 obtain⟨e,he,hbe⟩:=cC.1 hb;exact e.lt _ (h.ok e he) b hbe
theorem Ow.right(h:Ow m (L++R)):Ow m R:=
 ⟨by have:=h.nodup;rw[cv]at this;exact(List.nodup_append.1 this).2.1,fun e he=>h.ok e (by simp[he]),fun e he=>h.apart e (by simp[he])⟩
theorem Ow.left(h:Ow m (L++R)):Ow m L:=
 ⟨by have:=h.nodup;rw[cv]at this;exact(List.nodup_append.1 this).1,fun e he=>h.ok e (by simp[he]),fun e he=>h.apart e (by simp[he])⟩
theorem Ow.nil(m:Mem):Ow m []:=⟨List.nodup_nil,fun e h=>(by cases h),fun e h=>(by cases h)⟩
theorem St.frame(h:St B m0 m (L++R))(k:St (bF L) m m' L'):St B m0 m' (L'++R):=by
 have hn:=h.ow.nodup;rw[cv]at hn;obtain⟨_,nR,nLR⟩:=List.nodup_append.1 hn;have hR:=h.ow.right;have out:∀b∈bF R,b ∉ bF L:=fun b hb hl=>nLR b hl b hb rfl
 have hlt:∀b∈bF R,b<m.w.heap.size:=fun b hb=>hR.lt hb
 refine⟨h.le.trans k.le,fun b hb hB=>?_,fun b o ho=>?_,⟨?_,fun e he=>?_,fun e he b hb o ho hm=>?_⟩,fun b hb=>?_⟩
 . rw[k.kept b (Nat.lt_of_lt_of_le hb h.le.size) (fun hl=>?_),h.kept b hb hB];rcases h.kj b (by rw[cv];exact aQ _ hl)with h1|h1
   . exact hB h1
   . omega
 . rcases k.news b o ho with h1|h1|h1
   . exact h.news b o h1
   . exact .inr (.inl (Nat.le_trans h.le.size h1))
   . rcases h.kj b (by rw[cv];exact aQ _ h1)with h2|h2
     . exact .inr (.inr h2)
     . exact .inr (.inl h2)
 . rw[cv];refine List.nodup_append.2 ⟨k.ow.nodup,nR,fun a ha b hb=>?_⟩;rintro rfl;rcases k.kj a ha with h1|h1
   . exact out a hb h1
   . have:=hlt a hb;omega
 . rcases bn.1 he with h1|h1
   . exact k.ow.ok e h1
   . exact e.loc _ _ (hR.ok e h1) fun b hb=>k.kept b (hlt b (cC.2 ⟨e,h1,hb⟩)) (out b (cC.2 ⟨e,h1,hb⟩))
 . rcases bn.1 he with h1|h1
   . exact k.ow.apart e h1 b hb o ho hm
   . have hbr:=cC.2 ⟨e,h1,hb⟩;rcases k.news b o hm with h2|h2|h2
     . exact hR.apart e h1 b hb o ho h2
     . have:=hlt b hbr;omega
     . exact out b hbr h2
 . rw[cv]at hb;rcases bn.1 hb with h1|h1
   . rcases k.kj b h1 with h2|h2
     . exact h.kj b (by rw[cv];exact aQ _ h2)
     . exact .inr (Nat.le_trans h.le.size h2)
   . exact h.kj b (by rw[cv];exact aY _ h1)
theorem St.call(h:St B m0 m R)(k:St [] m m' L'):St B m0 m' (L'++R):=St.frame (L:=[]) h k
theorem Ow.perm(h:Ow m L)(p:List.Perm L R):Ow m R:=
 ⟨((List.Perm.flatMap_right bM.blocks p).nodup_iff).1 h.nodup,fun e he=>h.ok e (p.mem_iff.2 he),fun e he=>h.apart e (p.mem_iff.2 he)⟩
theorem St.perm(h:St B m0 m L)(p:List.Perm L R):St B m0 m R:=
 ⟨h.le,h.kept,h.news,h.ow.perm p,fun b hb=>h.kj b (by
  obtain⟨e,he,hbe⟩:=cC.1 hb;exact cC.2 ⟨e,p.mem_iff.2 he,hbe⟩)⟩
theorem Ak:∀(L:List bM) (i:Nat) (e:bM),L[i]?=some e->List.Perm L (e::L.eraseIdx i)
 |[],_,_,h=>by simp at h
 |x::L,0,e,h=>by simp at h;subst h;exact List.Perm.refl _
 |x::L,i+1,e,h=>by
  simp at h;exact((Ak L i e h).cons x).trans (List.Perm.swap e x _)
theorem St.front(h:St B m0 m L)(i:Nat)(hi:L[i]?=some e):St B m0 m (e::L.eraseIdx i):=h.perm (Ak L i e hi)
theorem St.drop(h:St B m0 m (e::L)):St B m0 m L:=
 ⟨h.le,h.kept,h.news,Ow.right (L:=[e]) h.ow,fun b hb=>h.kj b (by rw[dJ];exact aY _ hb)⟩
theorem St.ma(h:St B m0 m (L++R)):St B m0 m L:=
 ⟨h.le,h.kept,h.news,Ow.left h.ow,fun b hb=>h.kj b (by rw[cv];exact aQ _ hb)⟩
def Mem.qu(m:Mem)(X:Nat->Nat->Prop):Mem:=⟨m.w,fun b o=>m.ok b o\/X b o⟩
theorem Le.qu(m:Mem)(X:Nat->Nat->Prop):Le m (m.qu X):=⟨rfl,rfl,rfl,Nat.le_refl _,fun _ _ h=>⟨⟨.inl h,h.2⟩,rfl⟩⟩
theorem St.qu(h:St B m0 m (e::R))(X:Nat->Nat->Prop)(hX:∀b o,X b o->b∈e.blocks)(hok:e'.ok m.w)(hb:∀b∈e'.blocks,b∈e.blocks)(hn:e'.blocks.Nodup)
 (hf:∀b∈e'.blocks,∀o,e'.HA b o->e.HA b o/\¬ X b o):St B m0 (m.qu X) (e'::R):=by
 have k:St (bF [e]) m (m.qu X) [e']:=by
  refine⟨Le.qu m X,fun _ _ _=>rfl,fun b o ho=>?_,⟨by simpa using hn,fun x hx=>?_,fun x hx b hbb o ho hm=>?_⟩,fun b hbb=>?_⟩
  . rcases ho.1 with h1|h1
    . exact .inl h1
    . exact .inr (.inr (by simpa using hX b o h1))
  . simp at hx;subst hx;exact hok
  . simp at hx;subst hx;obtain⟨h1,h2⟩:=hf b hbb o ho;rcases hm.1 with h3|h3
    . exact h.ow.apart e (by simp) b (hb b hbb) o h1 h3
    . exact h2 h3
  . simp at hbb;exact .inl (by simpa using hb b hbb)
 exact St.frame (L:=[e]) h k
@[reducible] def Mem.up(m:Mem)(w':World):Mem:=⟨w',fun b o=>m.ok b o\/m.w.heap.size<=b⟩
theorem rE{w w':World}(h:Below w.heap.size w w'){b o:Nat}(hb:b<w.heap.size):w'.cell? ⟨b,o,none⟩=w.cell? ⟨b,o,none⟩:=by
 unfold World.cell?;rw[Below.block h b hb]
theorem Le.up(m:Mem){w':World}(h:Below m.w.heap.size m.w w'):Le m (m.up w'):=
 ⟨Below.os h,Below.tape h,Below.output h,Below.size h,fun b o hb=>⟨⟨.inl hb,Nat.lt_of_lt_of_le hb.2 (Below.size h)⟩,rE h hb.2⟩⟩
theorem St.up(m:Mem){w':World}(h:Below m.w.heap.size m.w w'):St [] m (m.up w') []:=
 ⟨Le.up m h,fun b hb _=>Below.block h b hb,fun b o ho=>ho.1.imp id .inl,Ow.nil _,fun b hb=>by simp at hb⟩
theorem St.below(h:St [] m m' L):Below m.w.heap.size m.w m'.w:=
 ⟨h.le.os,h.le.tape,h.le.output,h.le.size,fun b hb=>h.kept b hb (by simp)⟩
theorem St.new{o:Obj}(h:St B m0 m L){w':World}(hw:w'=m.w.alloc o)(e:bM)(hb:e.blocks=[m.w.heap.size])(hok:e.ok w'):St B m0 ⟨w',m.ok⟩ (e::L):=by
 subst hw;have k:St [] m ⟨m.w.alloc o,m.ok⟩ [e]:=by
  have hg:Below m.w.heap.size m.w (m.w.alloc o):=(Below.refl _ _).alloc (Nat.le_refl _) o;refine⟨⟨rfl,rfl,rfl,Below.size hg,fun b x hx=>⟨⟨hx,Nat.lt_of_lt_of_le hx.2 (Below.size hg)⟩,rE hg hx.2⟩⟩,fun b hb _=>Below.block hg b hb,fun b x hx=>.inl hx.1,⟨by simp[hb],fun x hx=>?_,fun x hx c hc q _ hm=>?_⟩,fun c hc=>?_⟩
  . simp at hx;subst hx;exact hok
  . simp at hx;subst hx;rw[hb]at hc;simp at hc;subst hc;exact absurd hm.1.2 (by simp)
  . simp[hb]at hc;subst hc;exact .inr (Nat.le_refl _)
 exact h.call k
theorem dy(w:World)(o:Obj):(w.alloc o).heap[w.heap.size]?=some o:=heap_alloc_new w o
theorem St.vZ(h:St B m0 m L)(cs:Array Value)(T:TypeId):St B m0 ⟨m.w.alloc (.cells cs T (0,0)),m.ok⟩ (.box m.w.heap.size cs T::L):=
 h.new rfl (.box m.w.heap.size cs T) rfl (dy _ _)
theorem St.drew(h:St B m0 m L):St B m0 (m.up m.w.drew) L:=h.call (St.up m (Below.refl _ _).drew)
theorem St.write{b:Nat}{cs cs':Array Value}{T:TypeId}(h:St B m0 m (.box b cs T::R)){w':World}(hw:m.w.grownBy w' (some b))(hsz:w'.heap.size=m.w.heap.size)(hb:w'.heap[b]?=some (.cells cs' T (0,0))):
 St B m0 ⟨w',m.ok⟩ (.box b cs' T::R):=by
 have hap:=h.ow.apart (.box b cs T) (by simp) b (by simp[bM.box])
 have k:St (bF [bM.box b cs T]) m ⟨w',m.ok⟩ [bM.box b cs' T]:=by
  have hk:∀c,c<m.w.heap.size->c≠b->w'.heap[c]?=m.w.heap[c]?:=fun c hc hne=>hw.block c hc (fun e=>hne (by cases e;rfl))
  refine⟨⟨hw.os,hw.tape,hw.output,hw.size,fun c o hc=>⟨⟨hc,by simpa[hsz]using hc.2⟩,?_⟩⟩,fun c hc hn=>hk c hc (by simpa[bM.box]using hn),fun c o hc=>.inl hc.1,⟨by simp[bM.box],fun x hx=>?_,fun x hx c hc o _ hm=>?_⟩,fun c hc=>?_⟩
  . have hne:c≠b:=fun e=>by subst e;exact hap o trivial hc
    show w'.cell? _=m.w.cell? _;unfold World.cell?;rw[hk c hc.2 hne]
  . simp at hx;subst hx;exact hb
  . simp at hx;subst hx;simp[bM.box]at hc;subst hc;exact hap o trivial hm.1
  . simp[bM.box]at hc;subst hc;exact .inl (by simp[bM.box])
 exact St.frame (L:=[bM.box b cs T]) h k
theorem St.yS{b:Nat}{cs:Array Value}{T:TypeId}(h:St B m0 m L)(i:Nat)(hi:L[i]?=some (.box b cs T)):m.w.heap[b]?=some (.cells cs T (0,0)):=
 h.ow.ok _ (List.mem_of_getElem? hi)
theorem St.TR{b:Nat}{o:Obj}(h:St B m0 m L)(i:Nat)(hi:L[i]?=some (.obj b o)):m.w.heap[b]?=some o:=
 h.ow.ok _ (List.mem_of_getElem? hi)
theorem St.jD{b:Nat}{o o':Obj}(h:St B m0 m (.obj b o::R)){w':World}(hw:m.w.grownBy w' (some b))(hsz:w'.heap.size=m.w.heap.size)(hb:w'.heap[b]?=some o'):
 St B m0 ⟨w',m.ok⟩ (.obj b o'::R):=by
 have hap:=h.ow.apart (.obj b o) (by simp) b (by simp[bM.obj])
 have k:St (bF [bM.obj b o]) m ⟨w',m.ok⟩ [bM.obj b o']:=by
  have hk:∀c,c<m.w.heap.size->c≠b->w'.heap[c]?=m.w.heap[c]?:=fun c hc hne=>hw.block c hc (fun e=>hne (by cases e;rfl))
  refine⟨⟨hw.os,hw.tape,hw.output,hw.size,fun c o hc=>⟨⟨hc,by simpa[hsz]using hc.2⟩,?_⟩⟩,fun c hc hn=>hk c hc (by simpa[bM.obj]using hn),fun c o hc=>.inl hc.1,⟨by simp[bM.obj],fun x hx=>?_,fun x hx c hc o _ hm=>?_⟩,fun c hc=>?_⟩
  . have hne:c≠b:=fun e=>by subst e;exact hap o trivial hc
    show w'.cell? _=m.w.cell? _;unfold World.cell?;rw[hk c hc.2 hne]
  . simp at hx;subst hx;exact hb
  . simp at hx;subst hx;simp[bM.obj]at hc;subst hc;exact hap o trivial hm.1
  . simp[bM.obj]at hc;subst hc;exact .inl (by simp[bM.obj])
 exact St.frame (L:=[bM.obj b o]) h k
end
def Spec(P:Program)(f:FuncId)(args:Array Value)(m:Mem)(L:List bM)(Q:Value->Mem->List bM->Prop):Prop:=
 Calls P f args m.w fun e w'=>∃v m' L',e=.returned v/\m'.w=w'/\St (bF L) m m' L'/\Q v m' L'
end
end Go.Proofs.YtjfkdglgecgjfaaGreat
