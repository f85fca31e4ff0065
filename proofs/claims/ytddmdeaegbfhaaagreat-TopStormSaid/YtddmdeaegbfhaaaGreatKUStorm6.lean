/- Part 6 of what the proof of this law rests on. -/
import Derived.Test.YtddmdeaegbfhaaaGreatKUStorm5
namespace Go.Proofs.YtddmdeaegbfhaaaGreat
set_option linter.all false
set_option maxHeartbeats 4000000
open Go.RowKit
open _root_.Bool renaming false->Z,true->T
open _root_.False renaming elim->xO
open Go.IntKind renaming i64->W,u16->fW,u32->e9,u64->cZ,u8->cH,wrap->U
open _root_.Int renaming add_assoc->OD,emod_eq_of_lt->zJ,le_refl->nK,lt_of_lt_of_le->HG,tdiv_eq_ediv_of_nonneg->ux,tmod->hc,tmod_eq_emod_of_nonneg->Cs,tmod_lt_of_pos->HR,tmod_nonneg->OE,toNat_natCast->gz
open _root_.List renaming append_assoc->iu,filter_append->xK,filter_cons->v7,getElem?_eq_getElem->e6,getElem_map->oG,getElem_mem->fi,getElem_range->zB,length->F,length_append->g9,length_cons->l6,length_filter_le->xJ,length_map->fT,length_nil->kv,length_range->tl,length_set->sb,length_singleton->lG,map_append->hN,map_cons->hx,map_nil->jY,mem_append->gq,mem_append_left->r9,mem_append_right->tk,mem_cons->l3,mem_filter->oE,mem_iff_getElem->mf,mem_map->hT,mem_singleton->gO,nil_append->k8,not_mem_nil->uo,pairwise_append->py,pairwise_cons->v8,pairwise_iff_getElem->px,range->jG,range_succ->VE,replicate->fe,sum_append->VF,sum_cons->xN,take_length->iV,take_nil->pt
open _root_.List.Pairwise renaming nil->OF
open _root_.List.Sublist renaming refl->xM
open _root_.List.cons renaming injEq->tm
open _root_.Nat renaming add_assoc->lH,le_refl->jq,le_trans->mY,zero_add->gx,zero_le->ny
open _root_.Ne renaming symm->l5
open _root_.Option renaming bind_some->cI,none->M,some->B
open _root_.Or renaming inl->Oo
open _root_.Sum renaming elim_inl->xL,inl->dV
noncomputable section
def xf{l a A o:E Int}(cK:fS l)(h:l=a++A++o){j n:Nat}(hi:F a=j)(cR:F A=n)(G:1<=n)(b:n<=8)(cN:F l<=100000):pB ⟨l,(j:Int)⟩ (n:Int)=B (kW A,0,((j+n:Nat):Int)):=by
 unfold pB;have d:F l=F a+F A+F o:=by rw[h];simp;omega
 simp only;rw[tc cK h hi cR G b I,cI,c6,fx I I];simp
def bits:∀f h:Fin 4,∀n:Fin 2,f2 W (gh W (96+8*(f.val:Int)+4*(n.val:Int)+(h.val:Int)) 3) 3=(f.val:Int)/\f2 W (96+8*(f.val:Int)+4*(n.val:Int)+(h.val:Int)) 4=4*(n.val:Int)/\f2 W (96+8*(f.val:Int)+4*(n.val:Int)+(h.val:Int)) 3=(h.val:Int):=lK
theorem Sc(z:ee):f2 W (gh W (lv z) 3) 3=(lm z.ig z.ij).1/\f2 W (lv z) 4=(lk z.Next).1/\f2 W (lv z) 3=(kd z.e3).1:=by have G:=Ur z.ig z.ij;have i:=(M4 z.Next).1;have j:=(Mw z.e3).1;unfold lv;obtain⟨f,a⟩:∃f:Fin 4,(lm z.ig z.ij).1=(f.val:Int):=⟨⟨(lm z.ig z.ij).1.toNat,I⟩,ew⟩;obtain⟨g,b⟩:∃g:Fin 4,(kd z.e3).1=(g.val:Int):=⟨⟨(kd z.e3).1.toNat,I⟩,ew⟩;obtain⟨A,d⟩:∃A:Fin 2,(lk z.Next).1=4*(A.val:Int):=cU;rw[a,b,d];exact bits f g A
section
variable{t l:Nat}{z:ee}(h:lI t l z){eB:E Int}(cK:fS eB)(cN:F eB<=100000)
include h cK cN
theorem aaW{a o:E Int}(b:eB=a++(kd z.e3).2++o)(g i:Int×Int×Int)(C:Bool)(d rI:Int):z1 (lv z) (C,d,(F a:Int),0) g i ⟨eB,rI⟩ ()=B (⟨U cH g.1,U e9 i.1,U cH d,z.e3,jX,jX,0,0,[]⟩,0,((F a+F (kd z.e3).2:Nat):Int)):=by
 have j:=h.hops;unfold z1 CW;simp only[(Sc z).2.2];by_cases aC:z.e3=1
 .rw[aC];rfl
 by_cases au:z.e3=64
 .rw[au];rfl
 by_cases aL:z.e3=255
 .rw[aL];rfl
 have e:kd z.e3=(0,[z.e3]):=by unfold kd;rw[dA aC,dA au,dA aL]
 rw[e]at b⊢;have:=xf cK b rfl (n:=1) rfl I I cN;simp only[(J:((1:Nat):Int)=1)]at this;simp only[beq_self_eq_true,c6,dm,(J:((0:Int) !=0)=Z),this,cI,(J:decide ((0:Int)<=0/\(0:Int)<4)=T)];rw[qm dd,lZ (a:=z.e3) dd];rfl
theorem M3{a o:E Int}(g:eB=a++((lk z.Next).2++(kd z.e3).2)++o)(d:Int×Int×Int){b:Int}(k:0<=b/\b<=1048575)(rI:Int):z0 (lv z) d ⟨eB,rI⟩ (b,(F a:Int),0)=B (⟨U cH d.1,b,z.Next,z.e3,jX,jX,0,0,[]⟩,0,((F a+(F (lk z.Next).2+F (kd z.e3).2):Nat):Int)):=by
 have i:U e9 b=b:=by rw[uk];omega
 unfold z0 CV;simp only[beq_self_eq_true,c6,i,(Sc z).2.1,(J:((0:Int) !=0)=Z),dm];rw[dr I,dm];rcases h.next with C|C
 .rw[C]at g⊢;have:=aaW h cK cN (a:=a) (o:=o) lB d (b,(F a:Int),0) Z 17 rI;rw[i]at this;rw[(J:((lk 17).1==0)=Z),dm];show z1 (lv z) (Z,17,(F a:Int),0) d (b,(F a:Int),0) ⟨eB,rI⟩ ()=_;rw[this,(J:F (lk 17).2=0),gx];rfl
 .rw[C]at g⊢;have e:lk 59=(0,[59]):=rfl;rw[e]at g⊢;have j:=xf cK (a:=a) (A:=[59]) (o:=(kd z.e3).2++o) cU rfl (n:=1) rfl I I cN;simp only[(J:((1:Nat):Int)=1)]at j;have:=aaW h cK cN (a:=a++[59]) (o:=o) cU d (b,(F a:Int),0) T 59 rI;rw[i]at this;simp only[beq_self_eq_true,c6,j,cI];simp only[g9,lG]at this;rw[(J:kW [59]=59),(J:(U cH 59==17)=Z),dm,this];simp[lH];rfl
theorem akS{a o:E Int}(d:F a=2)(s:eB=a++lu z++o):Iw ⟨eB,2⟩ (lv z)=B ({z with dU:=jX,ed:=jX,j_:=0,gM:=0,f7:=[]},0,((2+F (lu z):Nat):Int)):=by
 have q:=h.FT;have g:=h.F2;have p: @CY= @z0:=rfl;have k:=λ(A l:E Int) (m:F A=1) (e:eB=a++A++l)=>xf cK (a:=a) (A:=A) (o:=l) e d (n:=1) m I I cN
 unfold Iw CX Ix;rw[(Sc z).1,p];by_cases aC:z.ig=0
 .by_cases au:z.ij=0
  .have e:lm z.ig z.ij=(3,[]):=by unfold lm;rw[aC,au];rfl
   have b:eB=a++((lk z.Next).2++(kd z.e3).2)++o:=QG;have:=M3 h cK cN b (0,2,0) (b:=0) I 2;rw[d]at this;rw[e];unfold lu;rw[e];simp only[(J:((3:Int)==0)=Z),(J:((3:Int)==2)=Z),(J:((3:Int)==1)=Z),dm,k8,g9];rw[(J:((2:Nat):Int)=2)]at this;rw[this,aC,au];rfl
  .have e:lm z.ig z.ij=(1,d4 z.ij 3):=by unfold lm;rw[aC];simp[au]
   have b:eB=(a++d4 z.ij 3)++((lk z.Next).2++(kd z.e3).2)++o:=QG;have:=M3 h cK cN b (0,2,0) g 2;have j:=xf cK (a:=a) (A:=d4 z.ij 3) (o:=((lk z.Next).2++(kd z.e3).2)++o) cU d (n:=3) (gY _ _) I I cN;rw[e];unfold lu;rw[e];simp only[(J:((1:Int)==0)=Z),(J:((1:Int)==2)=Z),beq_self_eq_true,c6,dm,(J:((0:Int) !=0)=Z)];rw[(J:(2:Int)=((2:Nat):Int)),(J:(3:Int)=((3:Nat):Int)),j,cI,lO _ _ g.1 I];simp only[g9,d,gY]at this⊢;rw[(J:((2:Nat):Int)=2),this,aC];simp[lH];exact⟨rfl,I⟩
 .by_cases au:z.ij=0
  .have e:lm z.ig z.ij=(2,[z.ig]):=by unfold lm;rw[au];simp[aC]
   have b:eB=(a++[z.ig])++((lk z.Next).2++(kd z.e3).2)++o:=QG;have:=M3 h cK cN b (z.ig,3,0) (b:=0) I 2;have i:=k [z.ig] (((lk z.Next).2++(kd z.e3).2)++o) rfl cU;simp only[g9,lG,d]at this;rw[e];unfold lu;rw[e];simp only[(J:((2:Int)==0)=Z),(J:((2:Int)==1)=Z),beq_self_eq_true,c6,dm,(J:((0:Int) !=0)=Z)];rw[(J:(2:Int)=((2:Nat):Int)),(J:(1:Int)=((1:Nat):Int)),i,cI,qm lB];simp only[(J:((2:Nat):Int)=2)];rw[(J:(((2+1:Nat):Int))=3)]at this⊢;rw[this,au,lZ ⟨I,I⟩];simp[lH];omega
  .have e:lm z.ig z.ij=(0,[z.ig]++d4 z.ij 3):=by unfold lm;simp[aC,au]
   have b:eB=(a++[z.ig]++d4 z.ij 3)++((lk z.Next).2++(kd z.e3).2)++o:=QG;have:=M3 h cK cN b (z.ig,3,0) g 2;have i:=k [z.ig] (d4 z.ij 3++((lk z.Next).2++(kd z.e3).2)++o) rfl (by rw[b];simp);have j:=xf cK (a:=a++[z.ig]) (A:=d4 z.ij 3) (o:=((lk z.Next).2++(kd z.e3).2)++o) (by rw[b];simp) (j:=3) (by simp[d]) (n:=3) (gY _ _) I I cN;simp only[g9,lG,d,gY]at this;rw[e];unfold lu;rw[e];simp only[beq_self_eq_true,c6,dm,(J:((0:Int) !=0)=Z)];rw[(J:(2:Int)=((2:Nat):Int)),(J:(1:Int)=((1:Nat):Int)),i,cI,qm ⟨I,I⟩];simp only[(J:((0:Int) !=0)=Z),dm];rw[(J:(3:Int)=((3:Nat):Int)),(J:(2+1:Nat)=3),j,cI,lO _ _ g.1 I];simp only[(J:((2:Nat):Int)=2),(J:((3:Nat):Int)=3)];rw[(J:(2+1+3:Nat)=3+3)]at this;rw[this,lZ ⟨I,I⟩];simp[gY,lH];omega
end
theorem asA{e:E Int}(b:fS e)(cN:F e<=1300){t:Int}{f:Bool}(m:0<=t)(p:t<=100000000000):∃r,dq (H_ e) (t,f,0)=B r/\0<=r.1/\r.1<=t+85195500:=by
 have⟨r,G,l⟩:=vJ (i:=H_ e) (λq=>0<=q.2.2/\q.2.2<=F e/\0<=q.1/\q.1<=t+65535*q.2.2) (λr=>0<=r.1/\r.1<=t+65535*F e) (λq=>((F e:Int)-q.2.2).toNat) (by
  rintro⟨a,x,j⟩ ⟨u,g,i,k⟩;dsimp only at u g i k;unfold H_ H9;dsimp only;by_cases hi:j<(F e:Int)
  .left;rw[dz hi,F8 u hi];simp only[c6,cI];have d:=b.jT (dd:j.toNat<F e);generalize e[j.toNat]'I=o at d;have aG:U cZ o=o:=ju d.1 I;have aD:ji cZ o 8=o*256:=by rw[Sx I I];have:(2:Int)^(8:Int).toNat=256:=rfl;rw[this,zJ I I]
   rw[aG,aD,fx dd I];cases x
   .simp only[dm];rw[ju I I];refine ef
   .simp only[c6];rw[ju I I];refine ef
  .right;rw[dr hi];exact ef) (t,f,0) ⟨kQ,kQ,kQ,kQ⟩
 exact ef
theorem asB{s:E (E Int)}(h:∀e∈s,fS e/\F e<=1300)(cN:F s<=100):∃v,H8 s=B v/\0<=v/\v<=8519550000:=by
 unfold H8;obtain⟨r,G,k⟩:=vJ (i:=OT s) (λq=>0<=q.2.2/\q.2.2<=F s/\0<=q.1/\q.1<=85195500*q.2.2) (λr=>0<=r/\r<=8519550000) (λq=>((F s:Int)-q.2.2).toNat) (by
  rintro⟨a,x,j⟩ ⟨u,g,d,i⟩;dsimp only at u g d i;unfold OT;dsimp only;by_cases hi:j<(F s:Int)
  .left;rw[dz hi,F8 u hi];simp only[c6,cI];have b:=h (s[j.toNat]'I) cU;obtain⟨r,ay,eM,l⟩:=asA (f:=x) b.1 b.2 d I;rw[ay,fx I I];exact⟨_,rfl,ef,kQ⟩
  .right;rw[dr hi];exact ef) (0,T,0) ⟨kQ,kQ,kQ,kQ⟩
 rw[G];exact cU
theorem akW{t:Int}(dI:0<=t)(G:t<=8519550000):∃v,H7 t=B v/\0<=v/\v<=65535:=by
 unfold H7;obtain⟨r,i,b⟩:=vJ (i:=OS) (λq=>0<=q/\q<=8519550000) (λr=>0<=r/\r<=65535) (λq=>q.toNat) (by
  rintro a ⟨g,j⟩;unfold OS;by_cases d:a>65535
  .left;rw[dz d];have aG:hc a 65536=a%65536:=Cs g;have aD:hf cZ a 65536=a/65536:=by unfold hf;rw[ux g,ju I I]
   rw[aG,aD,ju I I];exact ef
  .right;rw[dr d];exact cU) t ⟨dI,G⟩
 rw[i];exact⟨_,rfl,by rw[xy b.1 I];exact b.1,by rw[xy b.1 I];exact b.2⟩
def alP{s:E (E Int)}(h:∀e∈s,fS e/\F e<=1300)(cN:F s<=100):∃v,H6 s=B v/\0<=v/\v<=65535:=by unfold H6;have⟨d,aG,a,b⟩:=asB h cN;have⟨v,aD,j,g⟩:=akW a b;rw[aG,cI,aD];exact⟨_,rfl,by rw[xy I I];omega,by rw[xy I I];omega⟩
structure Rd(z:ee):Prop where
 db:0<=z.ig
 c1:z.ig<=255
 akL:0<=z.ij
 aaf:z.ij<=1048575
 amK:0<=z.Next
 amL:z.Next<=255
 dI:0<=z.e3
 G:z.e3<=255
 xj:F z.dU=16
 arZ:fS z.dU
 arY:z.dU.getD 0 0≠255
 FX:F z.ed=16
 fc:fS z.ed
 arG:0<=z.j_
 arH:z.j_<=65535
 d0:0<=z.gM
 aku:z.gM<=65535
 aqR:z.Next=17\/(z.j_=0/\z.gM=0)
 aqC:fS z.f7
 f6:F z.f7<=if z.Next=17 then 1232 else 1240
def sz(z:ee):Nat:=(if z.Next=17 then 48 else 40)+F z.f7
def Mp(z:ee):Int:=1610612736+z.ig*1048576+z.ij
def w4(z:ee):E Int:=d4 (Mp z) 4++(d4 ((sz z:Int)-40) 2++([z.Next]++([z.e3]++(z.dU++z.ed))))
def uf(z:ee):E Int:=d4 z.j_ 2++(d4 z.gM 2++d4 ((sz z:Int)-40) 2)
def Cb(z:ee)(q:Int):E Int:=if z.Next=17 then uf z++d4 q 2 else[]
def rV(z:ee)(q:Int):E Int:=w4 z++(Cb z q++z.f7)
section
variable{z:ee}(w:Rd z)
include w
theorem NV:40<=sz z/\sz z<=1280/\(z.Next=17->48<=sz z):=by
 have G:=w.f6;unfold sz;split at G<;>rename_i a
 .rw[dE a];omega
 .rw[dA a];exact dd
theorem Ud:tA z=B (sz z:Int):=by
 have h:=NV w;unfold tA sz at*;by_cases a:z.Next=17
 .rw[dE a]at h⊢;refine gt cU ?_;rw[fx I I];congr 1
 .rw[dA a]at h⊢;refine gL cU ?_;rw[fx I I];congr 1
theorem aqP:ws z=B T:=by
 have h:=NV w;unfold ws;refine gL (dr (by have:=w.aaf;omega)) (dS (v:=Z) ?_<|gL rfl (dS (Ud w)<|gL ef ?_))
 .unfold uG;exact congrArg B<|hl w.arY
 by_cases b:z.Next=17
 .exact gt QK rfl
 .refine gL (hl b) ?_;rcases w.aqR with a|⟨a,d⟩
  .exact absurd a b
  .rw[a,d];rfl
def F7:F (w4 z)=40:=by simp[w4,gY,w.xj,w.FX]
theorem aqB(q:Int):F (rV z q)=sz z:=by have h:=F7 w;unfold rV;rw[g9,g9,h];unfold Cb sz uf;split<;>simp[gY]<;>omega
end
theorem aap(l:E Int)(s:F l<=1000)(i j k m:Int)(a b d g:Nat)(G:1<=a/\a<=8)(o:1<=b/\b<=8)(p:1<=d/\d<=8)(q:1<=g/\g<=8):
  DC l [jI.mk i a,jI.mk j b,jI.mk k d,jI.mk m g]=B (l++d4 i a++d4 j b++d4 k d++d4 m g):=by
 unfold DC;refine dS (v:=l++d4 i a++d4 j b++d4 k d++d4 m g) ?_ rfl;rw[pX (ao:=(l++d4 i a,1)) (by
  unfold DD;refine gt rfl (dS (v:=jI.mk i a) rfl (dS (k1 _ _ a G.2 ef)<|gt (dz pJ) rfl))),
  pX (ao:=(l++d4 i a++d4 j b,2)) (by
  unfold DD;refine gt rfl (dS (v:=jI.mk j b) rfl (dS (k1 _ _ b o.2 pJ)<|gt (dz pJ) rfl))),
  pX (ao:=(l++d4 i a++d4 j b++d4 k d,3)) (by
  unfold DD;refine gt rfl (dS (v:=jI.mk k d) rfl (dS (k1 _ _ d p.2 pJ)<|gt (dz pJ) rfl))),
  pX (ao:=(l++d4 i a++d4 j b++d4 k d++d4 m g,4)) (by
  unfold DD;refine gt rfl (dS (v:=jI.mk m g) rfl (dS (k1 _ _ g q.2 pJ)<|gt (dz pJ) rfl)))]
 exact mr rfl
theorem aeT(ak eB N:E Int)(j m:Nat)(a:F ak=j)(b:F ak+F eB=m):g2 (ak++(eB++N)) (j:Int) (m:Int)=B eB:=by subst a;subst b;rw[pr I I ef,gz,gz];rw[<-iu,List.take_append_of_le_length cU,List.take_of_length_le cU];simp
def w0{v:Int}(dI:0<=v)(G:v<=255):d4 v 1=[v]:=by simp only[d4,List.range_one,hx,jY];rw[show v/2^(8*(1-1-0))%256=v by simp;omega]
section
variable{z:ee}(w:Rd z)
include w
theorem aqy(b:z.Next=17){q:Int}(o:0<=q)(y:q<=65535):Jz z q=B (rV z q):=by
 have N:=NV w;have db:=w.db;have t:=w.c1;have j:=w.akL;have u:=w.aaf;have a:=w.amK;have m:=w.amL;have dI:=w.dI;have G:=w.G;have d:=w.arG;have p:=w.arH;have g:=w.d0;have s:=w.aku;have aG:U cZ (U cZ (1610612736+ji cZ (U cZ z.ig) 20)+U cZ z.ij)=Mp z:=by have e:(2:Int)^(20:Int).toNat=1048576:=rfl;rw[ju db I,ju j I,Sx I I,e,zJ I I,ju (dd:0<=1610612736+z.ig*1048576) I,ju I I];rfl
 have aD:U cZ (U W<|(sz z:Int)-40)=(sz z:Int)-40:=by rw[fx I I,ju I I]
 have x:F z.f7<=1240:=by have:=w.f6;split at this<;>omega
 have i:h4 1 0 (sz z:Int)=B 0:=by unfold h4;rw[dE dd];rfl
 have k:[]++d4 (Mp z) 4++d4 ((sz z:Int)-40) 2++d4 z.Next 1++d4 z.e3 1++z.dU++z.ed=w4 z:=by rw[w0 a m,w0 dI G];simp[w4]
 have l:=F7 w;unfold Jz;refine dS (Ud w)<|dS (Ud w)<|dS i ?_;rw[aG,aD,ju a I,ju dI I,Zv w.xj,Zv w.FX];refine dS (aap [] dh _ _ _ _ 4 2 1 1 I I I I) ?_;refine dS (he _ _ I (by simp[gY,cQ.cL,w.xj])) (dS (he _ _ I (by simp[gY,cQ.cL,w.xj,w.FX])) ?_);simp only[cQ.cL];rw[k];refine gt QK ?_;rw[ju d I,ju g I,ju o I];refine dS (aap _ I _ _ _ _ 2 2 2 2 I I I I) ?_;refine dS (he _ _ I (by simp[gY,cQ.cL,l];omega)) ?_;simp[rV,Cb,uf,b,cQ.cL]
theorem asQ(b:z.Next=17):∃p,0<=p/\p<=65535/\∀q,JA (rV z q)=B p:=by
 have N:=NV w;have i:F z.f7<=1240:=by have:=w.f6;split at this<;>omega
 have k:fS (uf z):=(ko _ _).append<|(ko _ _).append<|ko _ _;have g:F (uf z)=6:=by simp[uf,gY]
 have⟨v,ab,j,l⟩:=alP (s:=[z.dU++z.ed,d4 ((sz z:Int)-40) 4,([0,0,0,17]:E Int),uf z,[0,0],z.f7]) (by
  intro e d;simp only[l3,uo,or_false]at d;rcases d with rfl|rfl|rfl|rfl|rfl|rfl
  .exact⟨w.arZ.append w.fc,by simp[w.xj,w.FX]⟩
  .exact⟨ko _ _,EW⟩
  .exact⟨agM,by show(4:Nat)<=_;omega⟩
  .exact cU
  .exact⟨agM,by show(2:Nat)<=_;omega⟩
  .exact⟨w.aqC,I⟩) (by show(6:Nat)<=_;omega)
 refine⟨if v=0 then 65535 else v,AP,AP,λq=>?_⟩;have cN:=aqB w q;have aG:U cZ (U W<|(F (rV z q):Int)-40)=(sz z:Int)-40:=by rw[cN,fx I I,ju I I]
 unfold JA;rw[aG];refine dS (k1 [] _ 4 I dh) ?_;refine dS (v:=z.dU++z.ed) ?_ ?_
 .have e:rV z q=(d4 (Mp z) 4++d4 ((sz z:Int)-40) 2++[z.Next]++[z.e3])++((z.dU++z.ed)++(Cb z q++z.f7)):=by simp[rV,w4]
  rw[e];exact aeT _ _ _ 8 40 of (by simp[gY,w.xj,w.FX])
 refine dS (v:=uf z) ?_ ?_
 .have e:rV z q=w4 z++(uf z++(d4 q 2++z.f7)):=by simp[rV,Cb,b]
  rw[e];exact aeT _ _ _ 40 46 (F7 w) (by rw[F7 w,g])
 refine dS (v:=[0,0]) rfl (dS (v:=z.f7) ?_ ?_)
 .have e:rV z q=(w4 z++uf z++d4 q 2)++z.f7:=by simp[rV,Cb,b]
  rw[e];exact oz _ _ 48 (by simp[F7 w,g,gY])
 rw[k8];refine dS ab ?_;by_cases a:v=0
 .subst a;rfl
 .rw[dA a];exact gL (hl a) rfl
theorem ase(a:z.Next=17):∃p,0<=p/\p<=65535/\x1 z=B p:=by have⟨p,b,d,aA⟩:=asQ w a;refine⟨p,b,d,?_⟩;unfold x1;exact dS (aqP w)<|gt rfl (gL (by simp[a]) (dS (aqy w a (nK 0) I) (dS (aA 0) rfl)))
end
def alv{t:Nat}(a:t<4):[0,0,0,0,0,0,0,(t:Int)+1]=d4 ((t:Int)+1) 8:=kB (z:=λt=>[0,0,0,0,0,0,0,(t:Int)+1]=d4 ((t:Int)+1) 8) lK lK lK lK a
def akY{K:Int}(ax:fy K):Ic [jR] 0 K=B (jR,T):=by
 have cN:dq (Id [jR] 0 K) ()=B (jR,T):=by refine ow (λ_=>()) 0 dd ?_;unfold Id O1;rw[(J:di [jR] 0=B jR)];simp only[cI,lG,(J:jR.oa=0),(J:jR.ge=1099511627776),beq_self_eq_true,c6];rw[fx (a:=1099511627776+32) I I];simp only[dz (show K<1099511627776+32 by have:=ax.2;omega),dz (show(0:Int)<((1:Nat):Int) by decide),c6,cI]
 unfold Ic;rw[R2,cI,c6,Z2 ax,cI,c6];exact dS cN rfl
def afb{t q:Nat}(b:t<4)(aj:q<4){eB a o:E Int}(cK:fS eB)(cN:F eB<=100000)(d:eB=a++mp t q++o){K:Int}(ax:fy K):CZ ⟨eB,(F a:Int)⟩ T (o_ t q) (fN q) ([jR],0,K)=B (fk t,0,((F a+F (mp t q):Nat):Int)):=by
 have aw:=aa7 b;have g:=(LX b).2.2.2;unfold CZ xW Is IB IC;rw[Ss aj];simp only[cI,akY ax,(J:jR.o3.fu=64),c6];by_cases e:t=q
 .subst e;have aG:o_ t t=3:=dE rfl;have aD:mp t t=[]:=dE rfl;rw[aG,aD];simp only[(J:((3:Int)==3)=T),(J:((3:Int)==0)=Z),(J:((3:Int)==1)=Z),(J:((3:Int)==2)=Z),(J:((0:Int) !=0)=Z),(J:((3:Int) !=0)=T),(J:decide ((64:Int)>64)=Z),c6,dm,aw,cI,g];rfl
 .have aG:o_ t q=1:=dA e;have aD:mp t q=d4 ((t:Int)+1) 8:=by rw[<-alv b];exact dA e
  rw[aD]at d⊢;have r:=xf cK d rfl (n:=8) (gY _ _) I I cN;rw[lO _ _ I I]at r;rw[aG,gY];simp only[(J:((8:Nat):Int)=8)]at r;simp only[(J:((1:Int)==3)=Z),(J:((1:Int)==0)=Z),(J:((1:Int)==1)=T),(J:((0:Int) !=0)=Z),(J:((1:Int) !=0)=T),(J:decide ((64:Int)>64)=Z),c6,dm,r,aw,cI,g]
def arM(t q l r:Nat):f2 W (mR t q l r) 4=4/\f2 W (mR t q l r) 8=0/\f2 W (mR t q l r) 3=o_ l r/\f2 W (mR t q l r) 128=0/\f2 W (mR t q l r) 64=64/\f2 W (gh W (mR t q l r) 4) 3=o_ t q:=by unfold mR;rcases wV t q with C|C<;>rcases wV l r with a|a<;>rw[C,a]<;>decide+kernel
def ua{a:Int}(h:0<=a/\a<=255):fS [a]:=λan N=>by rw[gO.1 N];exact h
def akV{t l:Nat}{z:ee}(h:lI t l z):fS (lu z):=by
 have d:=h.hops;have G:fS (lm z.ig z.ij).2:=by
  unfold lm;split
  .split
   .exact hY (ua h.FT)<|ko _ _
   .exact ua h.FT
  .split
   .exact ko _ _
   .exact λan N=>ry
 have a:fS (lk z.Next).2:=by
  unfold lk;split
  .exact λan N=>ry
  .exact ua Xg
 have b:fS (kd z.e3).2:=by
  unfold kd;split
  .exact λan N=>ry
  .split
   .exact λan N=>ry
   .split
    .exact λan N=>ry
    .exact ua I
 exact hY G<|hY a b
def aaR{t l q r:Nat}{z:ee}(h:lI t l z)(a:t<4)(b:l<4):fS (qt t q l r z):=by have G:=Mq z;have d:=T7 t q l r;refine hY (hY (hY ?_<|akV h)<|Zo q a)<|Zo r b;intro an N;simp only[l3,uo,or_false]at N;rcases N with rfl|rfl<;>omega
def alT{t l q r:Nat}(j:t<4)(k:l<4)(aj:q<4)(ay:r<4){z:ee}(h:lI t l z){a:E Int}(cK:fS a)(cN:F a<=10000){K:Int}(ax:fy K):Ir (qt t q l r z++a) (fN q) (fN r) [jR] K=B ({z with j_:=0,gM:=0,f7:=[]},(F (qt t q l r z):Int),0):=by
 have G:=Mq z;have am:=T7 t q l r;have aP:=Mv t q l r z;have⟨p,s,u,P,Q,S⟩:=arM t q l r;have d:fS (qt t q l r z++a):=hY (aaR h j k) cK;have b:F (qt t q l r z++a)<=100000:=agN;have g:=xf d (a:=[]) (A:=[lv z]) (o:=[mR t q l r]++lu z++mp t q++mp l r++a) Le rfl (n:=1) rfl I I b;have i:=xf d (a:=[lv z]) (A:=[mR t q l r]) (o:=lu z++mp t q++mp l r++a) Le rfl (n:=1) rfl I I b;rw[qm dd]at g;rw[qm dd]at i;simp only[kv,lG]at g i;have aa:IA ⟨qt t q l r z++a,0⟩=B (lv z,mR t q l r,0,0,2):=by unfold IA;rw[(J:((0:Int))=((0:Nat):Int)),(J:((1:Int))=((1:Nat):Int)),g];simp only[cI];rw[fx (a:=lv z) I I,dr I,dr I,i];simp only[cI];rw[fx (a:=mR t q l r) I I,p,s,u,P];rcases wV l r with C|C<;>rw[C]<;>rfl
 have A:=akS h d b (a:=[lv z,mR t q l r]) (o:=mp t q++mp l r++a) rfl Le;have x:=afb j aj d b (a:=[lv z,mR t q l r]++lu z) (o:=mp l r++a) Le ax;have y:=afb k ay d b (a:=[lv z,mR t q l r]++lu z++mp t q) (o:=a) Le ax;have D:F ([lv z,mR t q l r]++lu z)=2+F (lu z):=fv;have N:F ([lv z,mR t q l r]++lu z++mp t q)=2+F (lu z)+F (mp t q):=fv;rw[D]at x;rw[N]at y;have aR:((o_ t q) !=0)=T:=by rcases wV t q with C|C<;>rw[C]<;>rfl
 unfold Ir It;rw[ZS ax];simp only[cI,aa,(J:((0:Int) !=0)=Z),dm,A,Q,(J:((64:Int) !=0)=T),c6,S,aR,(J:gh W 0 4=0),(J:f2 W 0 15=0),x,s,p,u,(J:((4:Int) !=0)=T),y];have o:=h.kJ;have m:=h.dst;have⟨ab,ad,ae,af,ag,ah,ai,ak,al⟩:=z;simp only at o m;subst o m;simp only[qt,g9];simp[lH,OD]
def amn{t l:Nat}(a:t<4)(i:l<4){z:ee}(h:lI t l z):Rd z:=by
 have cN:=h.len;have m:=h.hops;have b:∀{t:Nat},t<4->fS (fk t):=λ{t} a=>Gi a
 have Y:g6 z.j_/\g6 z.gM:=by
  rcases h.next with C|C
  .exact⟨by rw[(h.B1 C).1];unfold g6;omega,(h.B1 C).2⟩
  .rw[(h.zg C).1,(h.zg C).2];unfold g6;omega
 have⟨⟨d,j⟩,g,k⟩:=Y;refine⟨h.FT.1,h.FT.2,h.F2.1,h.F2.2,Xg,Xg,I,I,by rw[h.kJ];rfl,by rw[h.kJ];exact b a,by rw[h.kJ];exact(by decide:(32:Int)≠255),by rw[h.dst];rfl,by rw[h.dst];exact b i,d,I,g,I,?_,h.ok,AP⟩;rcases h.next with C|C
 .exact .inl C
 .exact .inr<|h.zg C
def mP(z:ee):Int:=(x1 z).getD 0
def mb(z:ee):E Int:=(if 61616<=z.gM/\z.gM<61632 then[243,16+(z.gM-61616)]else if 61440<=z.gM/\z.gM<61696 then[241]++(d4 61617 2++[z.gM-61440])else[242]++([177]++d4 z.gM 2))++d4 (mP z) 2
def th(t q l r:Nat)(z:ee):E Int:=qt t q l r z++((if z.Next=17 then mb z else[])++z.f7)
def TL{t l:Nat}(b:t<4)(d:l<4){z:ee}(h:lI t l z)(a:z.Next=17):x1 z=B (mP z)/\g6 (mP z):=by
 have⟨p,g,i,aA⟩:=ase (amn b d h) a;have e:mP z=p:=by unfold mP;rw[aA];rfl
 rw[e];exact⟨aA,g,I⟩
def N8(a c i:Int)(d:g6 a)(b:0<=c/\c<=100000)(g:0<=i/\i<=100000):uH a c i=B (decide (c<=a/\a<c+i)):=by
 have⟨dI,G⟩:=d;unfold uH;rw[fx (a:=a) I I,fx (a:=c+i) I I];by_cases C:c<=a
 .rw[dz lB,c6];simp[C]
 .rw[dr lB,dm,dr I]
def asH{t l:Nat}(k:t<4)(m:l<4){z:ee}(h:lI t l z)(j:z.Next=17){ak:E Int}(q:F ak<=1000):Ib ak z=B (ak++mb z):=by
 have⟨aG,aD⟩:=h.B1 j;have⟨aQ,aH,o⟩:=TL k m h j;have⟨d0,i⟩:=aD;have g:∀(ak:E Int) (v:Int) (n:Nat),n<=8->F ak<=100000->hy ak v n=B (ak++d4 v n):=λak v n G p=>k1 ak v n G I
 have a:=λ(ak:E Int) v=>g ak v 1 I
 have b:=λ(ak:E Int) v=>g ak v 2 I
 rw[(J:((1:Nat):Int)=1)]at a;rw[(J:((2:Nat):Int)=2)]at b;have d:∀eB:E Int,F eB<=2000->ty z eB=B (eB++d4 (mP z) 2):=λeB s=>by unfold ty;rw[aQ,cI,ju aH I,b _ _ I];rfl
 unfold Ib;rw[aG,N8 _ _ _ ⟨I,I⟩ I I,N8 _ _ _ ⟨d0,i⟩ I I,N8 _ _ _ ⟨d0,i⟩ I I,N8 _ _ _ ⟨I,I⟩ I I];simp only[cI,(J:decide ((61616:Int)<=61617/\(61617:Int)<61616+16)=T),(J:decide ((61440:Int)<=61617/\(61617:Int)<61440+256)=T),c6];unfold mb;by_cases aC:61616<=z.gM/\z.gM<61632
 .rw[dz lB,c6,dE aC];rw[show U cZ (U cZ (U cZ (U cZ (U cZ 61617-61616)*16)+U cZ z.gM)-61616)=16+(z.gM-61616) by simp only[xx];omega];rw[a _ _ I,cI,a _ _ pJ,cI,w0 I I,w0 I I,d _ fv];simp
 .rw[dr lB,dm,dA aC];by_cases au:61440<=z.gM/\z.gM<61696
  .rw[dz lB,c6,dE au];rw[show U cZ (U cZ z.gM-61440)=z.gM-61440 by simp only[xx];omega,(J:U cZ 61617=61617)];rw[a _ _ I,cI,b _ _ pJ,cI,a _ _ pJ,cI,w0 I I,w0 I I,d _ pJ];simp
  .rw[dr lB,dm,dA au];rw[(J:U cZ (U cZ 61617-61440)=177),ju d0 I];rw[a _ _ I,cI,a _ _ pJ,cI,b _ _ pJ,cI,w0 I I,w0 I I,d _ pJ];simp
def N1(z:ee):F (mb z)=4\/F (mb z)=6:=by
 unfold mb;split
 .left;simp[gY]
 .split<;>(right;simp[gY])
def Uu{t l:Nat}{z:ee}(h:lI t l z)(a:z.Next=17):fS (mb z):=by
 have⟨d0,b⟩:=(h.B1 a).2;refine hY ?_<|ko _ _;split
 .intro an N;simp only[l3,uo,or_false]at N;rcases N with rfl|rfl<;>omega
 .split
  .exact hY (ua I)<|hY (ko _ _)<|ua I
  .exact hY (ua I)<|hY (ua I)<|ko _ _
def afJ{t l q r:Nat}(a:t<4)(b:l<4){z:ee}(h:lI t l z):fS (th t q l r z)/\2<=F (th t q l r z)/\F (th t q l r z)<=180:=by
 have G:=Mv t q l r z;have d:=N1 z;have g:=h.len;refine⟨hY (aaR h a b)<|hY ?_ h.ok,?_,?_⟩
 .split
  next C=>exact Uu h C
  .exact λan N=>ry
 .simp only[th,qt,g9,l6,kv];omega
 .simp only[th,g9];split
  .omega
  .simp only[kv];omega
theorem akj{t l q r:Nat}(a:t<4)(b:l<4)(aj:q<4)(ay:r<4){z:ee}(h:lI t l z){K:Int}(ax:0<=K/\K<1099511627776):CA z (fN q) (fN r) [jR] K=B (th t q l r z,0):=by
 have G:=Mv t q l r z;have d:=N1 z;have g:=h.len;unfold CA Ia;rw[alU a b aj ay h ax];simp only[cI,(J:((0:Int) !=0)=Z),dm];unfold th;rcases h.next with C|C
 .rw[C,asH a b h C I,dE rfl];simp only[beq_self_eq_true,c6,cI,cQ.cL];rw[he _ _ I ef,cI,iu]
 .rw[C,dA dd];simp only[(J:((59:Int)==17)=Z),dm,cQ.cL];rw[he _ _ I I,cI,k8]
def xp{l:E Int}{n g v an:Int}(aA:js l g n=B (v,T))(N:U W (g+n)=an)(e:Int):so n l g e=B (v,an,e):=by unfold so;rw[aA];simp only[cI,c6,N]
theorem asG{t l:Nat}(K:t<4)(N:l<4){z:ee}(h:lI t l z)(p:z.Next=17):CB (mb z++z.f7)=B (61617,z.gM,mP z,(F (mb z):Int),0):=by
 have⟨d0,S⟩:=(h.B1 p).2;have⟨_,aH,aa⟩:=TL K N h p;have cN:=h.len;have ab:=N1 z;have D:fS (mb z++z.f7):=hY (Uu h p) h.ok;have C:F (mb z++z.f7)<=1000000:=agN;have x:U fW (mP z)=mP z:=by rw[Ce];omega
 have q:((F (mb z++z.f7):Int)==0)=Z:=hl ef;have g:=λ(a A o:E Int) (e:mb z++z.f7=a++A++o) (j n:Nat) (hi:F a=j) (cR:F A=n) (G:1<=n) (y:n<=8)=>tc D e hi cR G y C
 unfold CB xQ;by_cases aC:61616<=z.gM/\z.gM<61632
 .have e:mb z=[243,16+(z.gM-61616)]++d4 (mP z) 2:=by unfold mb;rw[dE aC]
  have b:=g [243] [16+(z.gM-61616)] (d4 (mP z) 2++z.f7) cU 1 1 rfl rfl I I;have d:=g [243,16+(z.gM-61616)] (d4 (mP z) 2) z.f7 cU 2 2 rfl (gY _ _) I I;rw[qm dd]at b;rw[lO _ _ aH I]at d;simp only[(J:((1:Nat):Int)=1),(J:((2:Nat):Int)=2)]at b d;have k:=xp b (an:=2) rfl;have m:=xp d (an:=4) rfl;have u:di (mb z++z.f7) 0=B 243:=E1;rw[q,u];simp only[cI,dm,(J:decide ((243:Int)<240)=Z),(J:decide ((243:Int)>243)=Z),beq_self_eq_true,c6,k,m,(J:((0:Int) !=0)=Z)];rw[x,e];have P:hf cZ (16+(z.gM-61616)) 16=1:=by unfold hf;rw[ux I];simp only[xx];omega
  have Q:hc (16+(z.gM-61616)) 16=z.gM-61616:=by rw[Cs I];omega
  rw[P,Q];rw[show U fW (U cZ (61616+(z.gM-61616)))=z.gM by rw[xx,Ce];omega];simp[gY];rfl
 .by_cases au:61440<=z.gM/\z.gM<61696
  .have e:mb z=[241]++(d4 61617 2++[z.gM-61440])++d4 (mP z) 2:=by unfold mb;rw[dA aC,dE au]
   have b:=g [241] (d4 61617 2) ([z.gM-61440]++d4 (mP z) 2++z.f7) cU 1 2 rfl (gY _ _) I I;have d:=g ([241]++d4 61617 2) [z.gM-61440] (d4 (mP z) 2++z.f7) cU 3 1 of rfl I I;have i:=g ([241]++(d4 61617 2++[z.gM-61440])) (d4 (mP z) 2) z.f7 cU 4 2 of (gY _ _) I I;rw[lO _ _ I I]at b;rw[qm dd]at d;rw[lO _ _ aH I]at i;simp only[(J:((1:Nat):Int)=1),(J:((2:Nat):Int)=2),(J:((3:Nat):Int)=3),(J:((4:Nat):Int)=4)]at b d i;have k:=xp b (an:=3) rfl;have m:=xp d (an:=4) rfl;have s:=xp i (an:=6) rfl;have u:di (mb z++z.f7) 0=B 241:=E1;rw[q,u];simp only[cI,dm,(J:decide ((241:Int)<240)=Z),(J:decide ((241:Int)>243)=Z),(J:((241:Int)==243)=Z),(J:(U cH (241-240)==0)=Z),(J:(U cH (241-240)==1)=T),c6,k,m,s,(J:((0:Int) !=0)=Z)];rw[x,e,show U fW (U cZ (z.gM-61440+61440))=z.gM by rw[xx,Ce];omega];simp[gY];rfl
  .have e:mb z=[242]++([177]++d4 z.gM 2)++d4 (mP z) 2:=by unfold mb;rw[dA aC,dA au]
   have b:=g [242] [177] (d4 z.gM 2++d4 (mP z) 2++z.f7) cU 1 1 rfl rfl I I;have d:=g ([242]++[177]) (d4 z.gM 2) (d4 (mP z) 2++z.f7) cU 2 2 rfl (gY _ _) I I;have i:=g ([242]++([177]++d4 z.gM 2)) (d4 (mP z) 2) z.f7 cU 4 2 of (gY _ _) I I;rw[qm I]at b;rw[lO _ _ d0 I]at d;rw[lO _ _ aH I]at i;simp only[(J:((1:Nat):Int)=1),(J:((2:Nat):Int)=2),(J:((4:Nat):Int)=4)]at b d i;have k:=xp b (an:=2) rfl;have m:=xp d (an:=4) rfl;have s:=xp i (an:=6) rfl;have u:di (mb z++z.f7) 0=B 242:=E1;rw[q,u];simp only[cI,dm,(J:decide ((242:Int)<240)=Z),(J:decide ((242:Int)>243)=Z),(J:((242:Int)==243)=Z),(J:(U cH (242-240)==0)=Z),(J:(U cH (242-240)==1)=Z),(J:(U cH (242-240)==2)=T),c6,k,m,s,(J:((0:Int) !=0)=Z)];rw[x,e,show U fW (U cZ (z.gM+0))=z.gM by rw[xx,Ce];omega];simp[gY];rfl
theorem aki{t l q r:Nat}(d:t<4)(g:l<4)(aj:q<4)(ay:r<4){z:ee}(h:lI t l z){K:Int}(ax:fy K):zT (th t q l r z) (fN q) (fN r) [jR] K=B (z,0):=by
 have G:=Mv t q l r z;have ae:=N1 z;have m:=h.len;have⟨af,ah,ai⟩:=afJ (q:=q) (r:=r) d g h;have ag:=Mq z;have ad:fS ((if z.Next=17 then mb z else[])++z.f7):=by
  refine hY ?_ h.ok;split
  next C=>exact Uu h C
  .exact λan N=>ry
 have ak:F ((if z.Next=17 then mb z else[])++z.f7)<=160:=by
  rw[g9];split
  .omega
  .simp only[kv];omega
 have s:=alT d g aj ay h ad I ax;have sz:∀C:ee,C.f7=z.f7->∃v,tA C=B v/\v<=1280:=λC e=>by
  unfold tA;rw[e];cases(C.Next==17)
  .exact⟨_,rfl,by rw[fx I I];omega⟩
  .exact⟨_,rfl,by rw[fx I I];omega⟩
 have k:∀(a o j:Int),(z.Next=17->j=mP z)->Cz ({z with j_:=0,gM:=0,f7:=[]},a,o) (z.f7,j,z.j_,z.gM)=B (z,0):=λa o j aD=>by
  unfold Cz;have⟨v,b,ab⟩:=sz z rfl;rcases h.next with C|C
  .have i:=(TL d g h C).1;rw[aD C];have⟨p,x,y,A,D,P,Q,S,aa⟩:=z;simp only at C b i ab m⊢;rw[b,cI,dr I,dm,C,vM _ I];rw[C]at i;simp only[beq_self_eq_true,c6,cI];rw[i,cI,Mc _ _ rfl];simp
  .have⟨p,x,y,A,D,P,Q,S,aa⟩:=z;simp only at C b ab m⊢;rw[b,cI,dr I,dm,C,vM _ I];simp only[(J:((59:Int)==17)=Z),dm,cI];rw[Mc _ _ rfl]
 unfold zT;rw[hl I,dm];have u:di (th t q l r z) 0=B (lv z):=rfl;rw[u,cI,hl I,dm];unfold th;rw[s];simp only[cI,(J:((0:Int) !=0)=Z),dm];have kh:∀(a o:E Int),g2 (a++o) (F a:Int) (F (a++o):Int)=B o:=λa o=>by rw[pr I ef I,gz,gz,iV];simp
 rw[kh,cI];rcases h.next with C|C
 .rw[C,dE rfl,asG d g h C];simp only[beq_self_eq_true,c6,cI,(J:((0:Int) !=0)=Z),dm];rw[kh,cI];have:=k (F (qt t q l r z):Int) 0 (mP z) dd;rwa[(h.B1 C).1,C]at this
 .rw[C,dA dd];simp only[(J:((59:Int)==17)=Z),dm,k8];have:=k (F (qt t q l r z):Int) 0 0 dd;rwa[(h.zg C).1,(h.zg C).2,C]at this
structure oK where
 s:Nat
 r:Nat
 cr:Int
 o:Nat
 nu:Int
 b:Nat
 p:ee
 w:E Int
def oK.c(P:oK):E Int:=v0 P.cr P.o P.nu P.b P.w
structure zO(n:Nat)(P:oK):Prop where
 s:P.s<n
 r:P.r<n
 o:P.o<n
 b:P.b<n
 cr:0<=P.cr/\P.cr<=1099511627775
 nu:iK P.nu
 lt:lI P.o P.b P.p
 w:fS P.w
 len:F P.w<=1000
 akv:∀K,fy K->zT P.w (fN P.s) (fN P.r) [jR] K=B (P.p,0)
inductive j6
 |nY(v:Int)
 |po(v:Int)(r:Nat)
 |qj(v:Int)(r:Nat)
 |nI(a:Int)(l:List Int)(i:Option Nat)
 |c_(P:oK)
 |mL(P:oK)(g:Nat)(tag:Int)
def j6.k:j6->Bool
 |.nY _=>T
 |.po _ _=>T
 |.qj _ _=>T
 |_=>Z
def j6.d:j6->X Nat
 |.nY _=>M
 |.po _ r=>B r
 |.qj _ r=>B r
 |.nI _ _ i=>i
 |.c_ P=>B P.r
 |.mL P _ _=>B P.r
def j6.p:j6->E Int
 |.nY v=>m8 1 v
 |.po v _=>m8 2 v
 |.qj v _=>[3]++d4 v 4
 |.nI _ l _=>l
 |.c_ P=>P.c
 |.mL P g tag=>m4 (m7 P.c) tag g
def j6.ok(n q:Nat):j6->Prop
 |.nY v=>iK v
 |.po v r=>iK v/\r<n
 |.qj v r=>iK v/\r<n
 |.nI a l i=>(0<=a/\a<1099511627776)/\AS n a l/\∀m,i=B m->m<n
 |.c_ P=>zO n P/\P.s=q/\F P.c<=95
 |.mL P g tag=>zO n P/\P.s=q/\g<(m7 P.c).eH/\0<=tag/\tag<=65535
def j6.jV:j6->X oK
 |.c_ P=>B P
 |.mL P 0 _=>B P
 |_=>M
structure nD where
 s:Nat
 c:Int
 q:Int
 y:j6
def XS(n:Nat)(a:nD):Prop:=a.s<n/\(0<=a.q/\a.q<256)/\iK a.c/\a.y.ok n a.s
def wC(a:nD)(l:E Int):Prop:=∃b,K7 a.y.k a.q a.y.d a.s a.c a.y.p l b
inductive rB
 |lw
 |y2(q:Nat)(c:Int)
 |lP(r q:Nat)(tag:Int)
 |done
structure mG where
 o:Nat
 nu:Int
 b:Nat
 p:ee
structure fG where
 H:nD->Prop
 eB:Nat->Nat->Int
 ht:Nat->Int->X (oK×Int)
 fr:Nat->Bool
 R:Nat->Int
 f6:Nat->Int->rB
 Y:Nat->Int->Nat
 L:E mG
 eH:Int
 kC:Nat->E gr
def mH(x:fG)(r:Nat)(ae:eR)(q:Nat)(c:Int):Prop:=rr ae q c\/(¬oR ae q/\c<x.eB r q)
def qg(x:fG)(P:oK):Prop:=∃e∈x.L,e.o=P.o/\e.nu=P.nu/\e.b=P.b/\P.p={e.p with e3:=P.p.e3}/\P.p.e3<=e.p.e3
def EI(x:fG)(a:nD):Prop:=∀P g tag,a.y=.mL P g tag->x.ht a.s tag=B (P,a.c-g)
def Qs(x:fG)(a:nD):Prop:=∀P g tag,a.y=.mL P g tag->x.fr a.s=Z
def afQ(n:Nat)(K:Int)(x:fG)(f:Nat×Int×E Int):Prop:=f.1<n/\K<=f.2.1/\f.2.1<=K+3/\∃a,x.H a/\a.s≠f.1/\wC a f.2.2/\(∀b l i,a.y=.nI b l i->f.2.1<=b+3/\b<=f.2.1)/\EI x a/\∀P g tag,a.y=.mL P g tag->x.fr a.s=T->f.2.1<=x.R a.s+3
def XA(K:Int)(x:fG)(l:Nat×E Int):Prop:=∃a,x.H a/\a.s=l.1/\wC a l.2/\(∀b l i,a.y=.nI b l i->b=K)/\EI x a/\Qs x a
def LE(x:fG)(j:Nat)(w:es):Prop:=∃a,x.H a/\a.s=j/\wC a w.Bytes/\(∀b l i,a.y≠.nI b l i)/\EI x a/\Qs x a
def xv(x:fG):Nat:=(x.L.map λe=>x.Y e.o e.nu).sum
structure uC(x:fG)(r:Nat)(ae:eR)(o:gr)(P:oK)(c:Int):Prop where
 p4:x.ht o.s o.tag=B (P,c)
 kI:qg x P
 d:o.d=m7 P.c
 ds:P.s=o.s
 dK:P.r=r
 pq:∀g∈o.K,mH x r ae o.s (c+g)
 fr:x.fr o.s=T->o.u<=x.R o.s+15
 f6:0∈o.K->x.f6 P.o P.nu=.lP r o.s o.tag/\P.p.e3+x.Y P.o P.nu<=256
def SC:E Int:=[34,35,36,37,38,39,40,41,42,43,44,45,46,47,48,49]
def g8(j:Nat):ix:=⟨fF j,n2,SC,1,[fk j],[iN j],[jR]⟩
def zt:kS:=⟨0,[],[0,0,0,0,0,0,0,0]⟩
structure uZ(n j:Nat)(A:d3):Prop where
 g8:A.gS=g8 j
 m5:qF n j A.dl
 seq:0<=A.dx/\A.dx<256
 tag:g6 A.eA
 num:iK A.ga
 FN:0<=A.rl/\A.rl<=1073741824
 FW:fy A.tw
 Hj:fy A.o4
 nv:m2 n j A.dW
 lP:∃L,A.g1=L.map (gr.b j)/\tv L
 tg:F A.ex<=32
 oB:∀w∈A.ex,(∃m,m<n/\w.c3=fF m)/\iK w.eJ/\F w.Bytes<=127/\0<=w.iG/\w.iG<=3/\fy w.mz
 zr:A.ni=[]
 set:A.j9=zt
 xg:A.pL=[]
 bind:A.oJ=[]
structure ss(n:Nat)(S K:Int)(x:fG)(j:Nat)(A:d3):Prop where
 ok:uZ n j A
 q:x.R j+16<=A.dW.gH
 eM:0<=x.R j/\x.R j<=K
 jQ:A.dl.eJ<=S/\A.dl.h3<=S+65536
 num:A.ga+65536<=A.dl.h3+F x.L
 mN:A.dl.it<=x.eH
 rM:x.fr j=T->A.eA=0
 pT:x.fr j=Z->x.R j+16<=K/\∀a v,x.ht j a=B v->a<A.eA
 tag:A.eA<=xv x
 oA:∀w∈A.ex,LE x j w
 lP:A.g1=(x.kC j).map (gr.b j)
 qQ:tv (x.kC j)
 kU:∀o∈x.kC j,o.u<=K+12/\(K<o.u->∃P c,uC x j A.dl o P c)
def agp(x:fG)(v:gK):Prop:=v.hC.gi=1->∃e∈x.L,v.hC.oY=fF e.o/\v.hC.ga=e.nu/\v.sB=e.b/\v.hC.lM={e.p with e3:=v.hC.lM.e3}/\v.hC.lM.e3<=e.p.e3/\x.f6 e.o e.nu=.done
def Yl(v w:gK):Prop:=v.hC.gi=1->w.hC.gi=1->v.hC.oY=w.hC.oY->v.hC.ga≠w.hC.ga
structure K9(n:Nat)(Q:Nat->d3)(x:fG):Prop where
 ok:∀a,x.H a->XS n a/\a.c<(Q a.s).dl.eJ
 xr:∀a o,x.H a->x.H o->a.s=o.s->a.c=o.c->a=o
 mN:∀j m,j<n->m<n->(Q j).dl.it=(Q m).dl.it->j=m
 old:∀a v,x.H a->(a.y=.nY v\/∃r,a.y=.po v r)->v<=x.eH
 vt:∀a v,x.H a->a.y=.nY v->∀r,r<n->v=(Q r).dl.it->a.s=r
 res:∀a v m,x.H a->a.y=.po v m->∀r,r<n->r≠a.s->v=(Q r).dl.it->x.eB r a.s<=a.c
 wZ:∀r q,r<n->q<n->x.eB r q<=(Q q).dl.eJ
 jV:∀a P,x.H a->a.y.jV=B P->mH x P.r (Q P.r).dl a.s a.c\/(x.f6 P.o P.nu=.y2 a.s a.c/\P.p.e3+x.Y P.o P.nu<=256)
 kI:∀a,x.H a->∀P,(a.y=.c_ P\/∃g tag,a.y=.mL P g tag)->qg x P
structure g4(n:Nat)(S K:Int)(Q:Nat->d3)(ak:E (Nat×Int×E Int))(u:E (Nat×E Int))(aq:E gK)(x:fG):Prop where
 jo:n<=4
 kL:0<=K/\K<=100000
 kV:0<=S/\S<=4294836223
 hA:∀j,j<n->ss n S K x j (Q j)
 h:K9 n Q x
 nV:∀f∈ak,afQ n K x f
 q7:∀l∈u,XA K x l
 jM:(∀v∈aq,agp x v)/\aq.Pairwise Yl
 mT:(∀e∈x.L,e.o<n/\e.b<n/\lI e.o e.b e.p/\0<=e.nu/\e.nu<(Q e.o).ga/\x.Y e.o e.nu<=255)/\x.L.Pairwise λt l=>t.o=l.o->t.nu≠l.nu
 pk:F x.L<=25
 qv:∀v∈aq,F v.hC.lM.f7<=1000/\F v.hC.gA<=1000
def fo(Q:Nat->d3)(j:Nat)(A:d3):Nat->d3:=λm=>if m=j then A else Q m
def mV(Q:Nat->d3)(j:Nat)(A:d3):fo Q j A j=A:=dE rfl
def Ux(Q:Nat->d3){j m:Nat}(A:d3)(h:m≠j):fo Q j A m=Q m:=dA h
theorem Hs(Q:Nat->d3)(j:Nat)(A a:d3):fo (fo Q j A) j a=fo Q j a:=by funext m;unfold fo;split<;>simp_all
def qx(f:Nat->Int->rB)(y:Nat)(a:Int)(v:rB):Nat->Int->rB:=λt l=>if t=y/\l=a then v else f t l
def Cc{f:Nat->Int->rB}{y:Nat}{a:Int}{v:rB}:qx f y a v y a=v:=dE dd
theorem afh{f:Nat->Int->rB}{y t:Nat}{a l:Int}{v:rB}(h:f t l≠f y a):qx f y a v t l=f t l:=dA λC=>h cU
abbrev fG.pp(x:fG)(a:nD):fG:={x with H:=λo=>x.H o\/o=a,f6:=match a.y.jV with
 |some P=>qx x.f6 P.o P.nu<|.y2 a.s a.c
 |none=>x.f6}
abbrev fG.take(x:fG)(a:nD):fG:={x with f6:=match a.y.jV with
 |some P=>qx x.f6 P.o P.nu .lw
 |none=>x.f6}
variable{n:Nat}{S K:Int}{Q:Nat->d3}{ak:E (Nat×Int×E Int)}{u:E (Nat×E Int)}{aq:E gK}{x:fG}
def rr.zo{ae b:eR}(h:b.d8=ae.d8){m:Nat}{a:Int}:rr b m a↔rr ae m a:=by unfold rr;rw[h]
def oR.zo{ae a:eR}(h:a.d8=ae.d8){m:Nat}:oR a m↔oR ae m:=by unfold oR;rw[h]
def mH.zo{r q:Nat}{c:Int}{ae a:eR}(h:a.d8=ae.d8):mH x r a q c↔mH x r ae q c:=by unfold mH;rw[rr.zo h,oR.zo h]
def K9.put(h:K9 n Q x){a:Nat->d3}(ar:∀m,(a m).dl=(Q m).dl):K9 n a x:=by have⟨b,d,g,i,j,k,l,o,p⟩:=h;exact⟨by simpa only[ar]using b,d,by simpa only[ar]using g,i,by simpa only[ar]using j,by simpa only[ar]using k,by simpa only[ar]using l,by simpa only[ar]using o,p⟩
def g4.put(h:g4 n S K Q ak u aq x){j:Nat}(hi:j<n){A:d3}(o:ss n S K x j A)(ar:A.dl=(Q j).dl)(aA:A.ga=(Q j).ga):g4 n S K (fo Q j A) ak u aq x:=by
 refine⟨h.jo,h.kL,h.kV,λm aw=>?_,h.h.put λm=>?_,h.nV,h.q7,h.jM,⟨λe l=>?_,h.mT.2⟩,h.pk,h.qv⟩
 .unfold fo;split
  next C=>subst C;exact o
  .exact h.hA m aw
 .unfold fo;split
  next C=>rw[C,ar]
  .rfl
 .have⟨b,d,g,i,a,k⟩:=h.mT.1 e l;refine⟨b,d,g,i,?_,k⟩;unfold fo;split
  next C=>rw[aA,<-C];exact a
  .exact a
theorem ss.aeH{j:Nat}{A a:d3}(h:ss n S K x j A)(ok:uZ n j a)(ar:a.dl=A.dl)(ap:A.dW.gH<=a.dW.gH)(aA:a.ga=A.ga)(ax:a.eA=A.eA)(d:∀w∈a.ex,LE x j w)(b:a.g1=A.g1):ss n S K x j a:=⟨ok,by have:=h.q;omega,h.eM,by rw[ar];exact h.jQ,by rw[ar,aA];exact h.num,by rw[ar];exact h.mN,by rw[ax];exact h.rM,by rw[ax];exact h.pT,by rw[ax];exact h.tag,d,by rw[b];exact h.lP,h.qQ,by rw[ar];exact h.kU⟩
theorem g4.mono(h:g4 n S K Q ak u aq x){k:Int}(G:S<=k)(a:k<=4294836223):g4 n k K Q ak u aq x:=by have:=h.kV;exact⟨h.jo,h.kL,dd,λj hi=>let g:=h.hA j hi;{g with jQ:=by have:=g.jQ;omega},h.h,h.nV,h.q7,h.jM,h.mT,h.pk,h.qv⟩
theorem T6{a:nD}(ax:∀P,a.y.jV=B P->x.f6 P.o P.nu=.lw){y:Nat}{b:Int}(h:x.f6 y b≠.lw):(x.pp a).f6 y b=x.f6 y b:=by
 unfold fG.pp;simp only;cases e:a.y.jV with
 |none=>rfl
 |some P=>exact afh cU
def ss.pp{a:nD}{m:Nat}{A:d3}(h:ss n S K x m A)(ax:∀P,a.y.jV=B P->x.f6 P.o P.nu=.lw):ss n S K (x.pp a) m A:=by
 refine⟨h.ok,h.q,h.eM,h.jQ,h.num,h.mN,h.rM,h.pT,h.tag,λw g=>?_,h.lP,h.qQ,λo ad=>⟨(h.kU o ad).1,λC=>?_⟩⟩
 .have⟨an,b,d⟩:=h.oA w g;exact⟨an,.inl b,d⟩
 .have⟨P,c,l⟩:=(h.kU o ad).2 C;refine⟨P,c,l.p4,l.kI,l.d,l.ds,l.dK,l.pq,l.fr,λlD=>?_⟩;have:=l.f6 lD;exact⟨by rw[T6 ax (by rw[this.1];simp)];exact this.1,this.2⟩
theorem g4.pp(h:g4 n S K Q ak u aq x){j:Nat}(hi:j<n){A:d3}{a:nD}{l:E Int}(aU:S+1<=4294836223)
  (ok:uZ n j A)(aS:A.dl.d8=(Q j).dl.d8)(aN:A.dl.it=(Q j).dl.it)(a2:A.dl.eJ=(Q j).dl.eJ+1)(aP:(Q j).dl.h3<=A.dl.h3)(aT:A.dl.h3<=S+65537)
  (aG:A.dW=(Q j).dW)(aD:A.ga=(Q j).ga)(aQ:A.eA=(Q j).eA)(aH:A.ex=(Q j).ex)(ap:A.g1=(Q j).g1)
  (ae:a.s=j)(y:a.c=(Q j).dl.eJ)(aK:XS n a)(aJ:wC a l)(al:∀v,a.y=.nY v->v=(Q j).dl.it)(aA:∀v r,a.y=.po v r->v<=x.eH)(aB:∀ai l i,a.y=.nI ai l i->ai=K)(aE:EI x a)(aF:Qs x a)
  (aI:∀P,(a.y=.c_ P\/∃g tag,a.y=.mL P g tag)->qg x P)(am:∀P,a.y.jV=B P->x.f6 P.o P.nu=.lw/\P.p.e3+x.Y P.o P.nu<=256):g4 n (S+1) K (fo Q j A) ak (u++[(j,l)]) aq (x.pp a):=by
 have aV:=h.kV;have ax:∀P,a.y.jV=B P->x.f6 P.o P.nu=.lw:=λP C=>(am P C).1
 have az:∀m,(fo Q j A m).dl.d8=(Q m).dl.d8:=λm=>by
  unfold fo;split
  next C=>rw[C];exact aS
  .rfl
 have p:∀m,(fo Q j A m).dl.it=(Q m).dl.it:=λm=>by
  unfold fo;split
  next C=>rw[C];exact aN
  .rfl
 have ar:∀m,(Q m).dl.eJ<=(fo Q j A m).dl.eJ:=λm=>by
  unfold fo;split
  next C=>rw[C];omega
  .exact nK _
 have b:∀m,(fo Q j A m).ga=(Q m).ga:=λm=>by
  unfold fo;split
  next C=>rw[C];exact aD
  .rfl
 refine⟨h.jo,h.kL,dd,λm aw=>?_,⟨?_,?_,agP,?_,?_,?_,λr q t l=>Int.le_trans (h.h.wZ r q t l) cU,?_,?_⟩,λf av=>?_,λc s=>?_,⟨λv ab C=>?_,h.jM.2⟩,⟨agQ,h.mT.2⟩,h.pk,h.qv⟩
 .have aj:=(h.hA m aw).pp (a:=a) ax;unfold fo;split
  next C=>subst C;have aM:=aj.jQ;have aO:=aj.num;refine⟨ok,by rw[aG];exact aj.q,aj.eM,I,by rw[aD];omega,by rw[aN];exact aj.mN,by rw[aQ];exact aj.rM,by rw[aQ];exact aj.pT,by rw[aQ];exact aj.tag,by rw[aH];exact aj.oA,by rw[ap];exact aj.lP,aj.qQ,λo ad=>⟨(aj.kU o ad).1,λC=>?_⟩⟩;have⟨P,c,l⟩:=(aj.kU o ad).2 C;exact⟨P,c,l.p4,l.kI,l.d,l.ds,l.dK,λg af=>(mH.zo aS).2<|l.pq g af,l.fr,l.f6⟩
  .exact{aj with jQ:=by have:=aj.jQ;omega}
 .rintro an (N|rfl)
  .exact⟨(h.h.ok an N).1,HG (h.h.ok an N).2<|ar _⟩
  .refine⟨aK,?_⟩;rw[ae,mV,y];omega
 .rintro an w (N|rfl) (ah|rfl) aC au
  .exact h.h.xr an w N ah aC au
  .have:=(h.h.ok an N).2;rw[aC,ae,au,y]at this;omega
  .have:=(h.h.ok w ah).2;rw[<-aC,ae,<-au,y]at this;omega
  .rfl
 .rintro an v (N|rfl) C
  .exact h.h.old an v N C
  .rcases C with C|⟨r,C⟩
   .rw[al v C];exact(h.hA j hi).mN
   .exact aA v r C
 .rintro an v (N|rfl) C r ay au
  .rw[p]at au;exact h.h.vt an v N C r ay au
  .rw[p,al v C]at au;rw[ae];exact h.h.mN j r hi ay au
 .rintro an v m (N|rfl) C r ay aR au
  .rw[p]at au;exact h.h.res an v m N C r ay aR au
  .rw[ae,y];exact h.h.wZ r j ay hi
 .rintro an P (N|rfl) C
  .rcases h.h.jV an P N C with au|⟨au,aL⟩
   .exact .inl<|(mH.zo<|az _).2 au
   .exact .inr ⟨by rw[T6 ax (by rw[au];simp)];exact au,aL⟩
  .refine .inr ⟨?_,(am P C).2⟩;unfold fG.pp;simp only[C];exact Cc
 .rintro an (N|rfl) P C
  .exact h.h.kI an N P C
  .exact aI P C
 .have⟨d,k,z,an,D,aa⟩:=h.nV f av;exact⟨d,k,z,an,.inl D,aa⟩
 .rcases gq.1 s with s|s
  .have⟨an,d,k⟩:=h.q7 c s;exact⟨an,.inl d,k⟩
  .rw[gO.1 s];exact⟨a,.inr rfl,ae,aJ,aB,aE,aF⟩
 .have⟨e,d,k,z,D,aa,ao,ag⟩:=h.jM.1 v ab C;exact⟨e,d,k,z,D,aa,ao,by rw[T6 ax (by rw[ag];simp)];exact ag⟩
theorem amG{v w:Int}(ab:iK v)(a:iK w)(h:d4 v 4=d4 w 4):v=w:=by have:=congrArg kW h;rwa[lO _ _ ab.1 (by have:=ab.2;omega),lO _ _ a.1 (by have:=a.2;omega)]at this
def amH{o:j6}{q n:Nat}(cK:o.ok n q)(af:o.k=T){v:Int}(ab:iK v)(Y:o.p=m8 2 v):∃r,o=.po v r:=by
 cases o with
 |nY w=>simp[j6.p,m8]at Y
 |po w r=>simp only[j6.p,m8,List.cons_append,k8,tm,true_and]at Y;exact⟨r,by rw[amG cK.1 ab Y]⟩
 |qj w r=>simp[j6.p,m8]at Y
 |nI _ _ _=>cases af
 |c_ _=>cases af
 |mL _ _ _=>cases af
theorem ady(h:g4 n S K Q ak u aq x){r:Nat}(ay:r<n){ae:eR}{a:nD}(d:x.H a)(aR:a.s≠r)(b:yw n r (Q r).dl ae a.y.k a.s a.c a.y.p):¬mH x r (Q r).dl a.s a.c/\mH x r ae a.s a.c/\∀q c,mH x r (Q r).dl q c->mH x r ae q c:=by
 have o:∀{ae:eR} {q:Nat} {c:Int},rr ae q c->oR ae q:=λ⟨z,t,l,_⟩=>⟨z,t,l⟩
 rcases b.Sn with⟨g,i⟩|⟨g,i,j,k⟩
 .refine⟨?_,.inl b.aaz,?_⟩
  .rintro(C|⟨C,_⟩)
   .exact i C
   .exact C g
  .rintro q c (C|⟨C,au⟩)
   .exact .inl<|b.gJ q c C
   .refine .inr ⟨λaL=>?_,au⟩;rcases(b.aaO q).1 aL with aL|rfl
    .exact C aL
    .exact C g
 .have aW:=(h.hA r ay).ok.m5.t9;have⟨m,e⟩:=amH (h.h.ok a d).1.2.2.2 i aW j;have p:=h.h.res a _ m d e r ay dd rfl;refine⟨?_,.inl b.aaz,?_⟩
  .rintro(C|⟨_,C⟩)
   .exact g<|o C
   .omega
  .rintro q c (C|⟨C,au⟩)
   .exact .inl<|b.gJ q c C
   .by_cases e:q=a.s
    .rw[e]at au⊢;exact .inl<|k c I
    .refine .inr ⟨λaL=>?_,au⟩;rcases(b.aaO q).1 aL with aL|aL
     .exact C aL
     .exact e aL
theorem NW{o:j6}{P:oK}(h:o.jV=B P):o.d=B P.r/\(o=.c_ P\/∃g tag,o=.mL P g tag):=by
 cases o with
 |c_ a=>cases h;exact⟨rfl,.inl rfl⟩
 |mL a g tag=>
  cases g with
  |zero=>cases h;exact⟨rfl,.inr cU⟩
  |succ g=>cases h
 |_=>cases h
theorem Uq{a:nD}{y:Nat}{b:Int}(h:∀P,a.y.jV=B P->x.f6 y b≠x.f6 P.o P.nu):(x.take a).f6 y b=x.f6 y b:=by
 unfold fG.take;simp only;cases e:a.y.jV with
 |none=>rfl
 |some P=>exact afh cU
def g4.take(h:g4 n S K Q ak u aq x){r:Nat}(ay:r<n){ae:eR}{a:nD}(d:x.H a)(aR:a.s≠r)(z:∀m,a.y.d=B m->m=r)(j:yw n r (Q r).dl ae a.y.k a.s a.c a.y.p):g4 n S K (fo Q r {Q r with dl:=ae}) ak u aq (x.take a):=by
 have⟨av,ax,D⟩:=ady h ay d aR j;have s:∀P,a.y.jV=B P->x.f6 P.o P.nu=.y2 a.s a.c:=λP C=>by
  rcases h.h.jV a P d C with au|au
  .rw[z _ (NW C).1]at au;exact absurd au av
  .exact au.1
 have A:∀m q c,mH x m (Q m).dl q c->mH x m (fo Q r {Q r with dl:=ae} m).dl q c:=λm q c C=>by
  unfold fo;split
  next e=>subst e;exact D q c C
  .exact C
 have y:∀m,(fo Q r {Q r with dl:=ae} m).dl.eJ=(Q m).dl.eJ:=λm=>by
  unfold fo;split
  next e=>rw[e];exact j.jQ
  .rfl
 have p:∀m,(fo Q r {Q r with dl:=ae} m).dl.it=(Q m).dl.it:=λm=>by
  unfold fo;split
  next e=>rw[e];exact j.t9
  .rfl
 have b:∀m,(fo Q r {Q r with dl:=ae} m).ga=(Q m).ga:=λm=>by
  unfold fo;split
  next e=>rw[e]
  .rfl
 have ap:∀m,m<n->ss n S K (x.take a) m (Q m):=λm aw=>by have aj:=h.hA m aw;refine{aj with kU:=λo ad=>⟨(aj.kU o ad).1,λC=>?_⟩};have⟨P,c,l⟩:=(aj.kU o ad).2 C;refine⟨P,c,l.p4,l.kI,l.d,l.ds,l.dK,l.pq,l.fr,λlD=>?_⟩;have:=l.f6 lD;exact⟨by rw[Uq λi k=>by rw[this.1,s i k];simp];exact this.1,this.2⟩
 refine⟨h.jo,h.kL,h.kV,λm aw=>?_,⟨by simpa only[y]using h.h.ok,h.h.xr,agP,h.h.old,by simpa only[p]using h.h.vt,by simpa only[p]using h.h.res,by simpa only[y]using h.h.wZ,λan P N C=>?_,h.h.kI⟩,h.nV,h.q7,⟨λv ab C=>?_,h.jM.2⟩,⟨agQ,h.mT.2⟩,h.pk,h.qv⟩
 .have aj:=ap m aw;unfold fo;split
  .rename_i C;subst C;have ok:=aj.ok;refine{aj with ok:={ok with m5:=j.ok},jQ:=?_,num:=?_,mN:=?_,kU:=λo ad=>⟨(aj.kU o ad).1,λC=>?_⟩}
   .simp only;rw[j.jQ,j.res];exact aj.jQ
   .simp only;rw[j.res];exact aj.num
   .simp only;rw[j.t9];exact aj.mN
   .have⟨P,c,l⟩:=(aj.kU o ad).2 C;exact⟨P,c,l.p4,l.kI,l.d,l.ds,l.dK,λg af=>D _ _ (l.pq g af),l.fr,l.f6⟩
  .exact aj
 .by_cases e:∃i,a.y.jV=B i/\x.f6 P.o P.nu=x.f6 i.o i.nu
  .have⟨i,aG,aD⟩:=e;rcases h.h.jV an P N C with au|au
   .exact .inl<|A _ _ _ au
   .rw[s i aG,au.1]at aD;injection aD with aQ aH
    have:=h.h.xr an a N d aQ aH;subst this;have ao:=z _ (NW C).1;rw[ao];refine .inl ?_;rw[mV];exact ax
  .rcases h.h.jV an P N C with au|au
   .exact .inl<|A _ _ _ au
   .exact .inr ⟨by rw[Uq λi k ar=>e ⟨i,k,ar⟩];exact au.1,au.2⟩
 .have⟨e,aa,ag,ah,ai,al,am,t⟩:=h.jM.1 v ab C;exact⟨e,aa,ag,ah,ai,al,am,by rw[Uq λi k=>by rw[t,s i k];simp];exact t⟩
def Ht{f:Nat->Int->rB}{y t:Nat}{a l:Int}{v:rB}(h:¬(t=y/\l=a)):qx f y a v t l=f t l:=dA h
def g4.aeA(h:g4 n S K Q ak u aq x){y:Nat}{a:Int}(v:rB)(G:∀q c,x.f6 y a≠.y2 q c)(t:x.f6 y a≠.done)(z:∀r,r<n->∀o∈x.kC r,K<o.u->∀P c,uC x r (Q r).dl o P c->0∈o.K->¬(P.o=y/\P.nu=a)):g4 n S K Q ak u aq {x with f6:=qx x.f6 y a v}:=by
 refine⟨h.jo,h.kL,h.kV,λm aw=>?_,⟨h.h.ok,h.h.xr,h.h.mN,h.h.old,h.h.vt,h.h.res,h.h.wZ,λan P N C=>?_,h.h.kI⟩,h.nV,h.q7,⟨λw A C=>?_,h.jM.2⟩,h.mT,h.pk,h.qv⟩
 .have aj:=h.hA m aw;refine{aj with kU:=λo ad=>⟨(aj.kU o ad).1,λC=>?_⟩};have⟨P,c,l⟩:=(aj.kU o ad).2 C;exact⟨P,c,l.p4,l.kI,l.d,l.ds,l.dK,l.pq,l.fr,λlD=>⟨(Ht<|z m aw o ad C P c l lD).trans (l.f6 lD).1,(l.f6 lD).2⟩⟩
 .rcases h.h.jV an P N C with au|au
  .exact .inl au
  .exact .inr ⟨(Ht λe=>G an.s an.c (by rw[<-e.1,<-e.2];exact au.1)).trans au.1,au.2⟩
 .have⟨e,g,i,j,k,p,s,b⟩:=h.jM.1 w A C;exact⟨e,g,i,j,k,p,s,(Ht λd=>t (by rw[<-d.1,<-d.2];exact b)).trans b⟩
theorem g4.lw(h:g4 n S K Q ak u aq x){y:Nat}{a:Int}(v:rB)(Y:x.f6 y a=.lw):g4 n S K Q ak u aq {x with f6:=qx x.f6 y a v}:=
 h.aeA v cU cU λr ay o ad C P c l lD e=>by have:=(l.f6 lD).1;rw[e.1,e.2,Y]at this;cases this
abbrev fG.r2(x:fG)(r:Nat)(L:E gr):fG:={x with kC:=λm=>if m=r then L else x.kC m}
theorem g4.arT(h:g4 n S K Q ak u aq x){r:Nat}(ay:r<n){L:E gr}(b:tv L)(g:∀o∈L,o.u<=K+12/\(K<o.u->∃P c,uC x r (Q r).dl o P c)):g4 n S K (fo Q r {Q r with g1:=L.map (gr.b r)}) ak u aq (x.r2 r L):=by
 have ar:∀m,(fo Q r {Q r with g1:=L.map<|gr.b r} m).dl=(Q m).dl/\(fo Q r {Q r with g1:=L.map<|gr.b r} m).ga=(Q m).ga:=λm=>by
  unfold fo;split
  next C=>rw[C];exact cU
  .exact cU
 have a:=h.h.put λm=>(ar m).1
 refine⟨h.jo,h.kL,h.kV,λm aw=>?_,⟨a.ok,a.xr,a.mN,a.old,a.vt,a.res,a.wZ,a.jV,a.kI⟩,h.nV,h.q7,h.jM,⟨λe i=>by rw[(ar e.o).2];exact h.mT.1 e i,h.mT.2⟩,h.pk,h.qv⟩;have aj:=h.hA m aw;have d:∀o,(o.u<=K+12/\(K<o.u->∃P c,uC x m (Q m).dl o P c))->o.u<=K+12/\(K<o.u->∃P c,uC (x.r2 r L) m (Q m).dl o P c):=λo ad=>⟨ad.1,λC=>let⟨P,c,l⟩:=ad.2 C;⟨P,c,l.p4,l.kI,l.d,l.ds,l.dK,l.pq,l.fr,l.f6⟩⟩
 unfold fo;split
 next C=>subst C;have ok:=aj.ok;have e:(x.r2 m L).kC m=L:=dE rfl;exact⟨{ok with lP:=⟨L,rfl,b⟩},aj.q,aj.eM,aj.jQ,aj.num,aj.mN,aj.rM,aj.pT,aj.tag,aj.oA,by rw[e],by rw[e];exact b,by rw[e];exact λo ad=>d o<|g o ad⟩
 next C=>have e:(x.r2 r L).kC m=x.kC m:=dA C;exact⟨aj.ok,aj.q,aj.eM,aj.jQ,aj.num,aj.mN,aj.rM,aj.pT,aj.tag,aj.oA,by rw[e];exact aj.lP,by rw[e];exact aj.qQ,by rw[e];exact λo ad=>d o<|aj.kU o ad⟩
theorem aeX{ag:Type}{f b:ag->Nat}:∀{s:E ag},(∀a∈s,f a<=b a)->(s.map f).sum<=(s.map b).sum
 |[],_=>jq _
 |a::s,h=>by simp only[hx,xN];exact Nat.add_le_add cU (aeX λo ad=>h o cU)
theorem aeY{ag:Type}{f b:ag->Nat}:∀{s:E ag},(∀a∈s,f a<=b a)->(∃a∈s,f a<b a)->(s.map f).sum<(s.map b).sum
 |[],_,h=>by have⟨a,h,_⟩:=h;cases h
 |a::s,h,aF=>by
  simp only[hx,xN];have G:=h a dh;have d:=aeX (s:=s) λo ad=>h o cU
  have⟨o,ad,g⟩:=aF;rcases l3.1 ad with rfl|ad
  .omega
  .have:=aeY (s:=s) (λo ad=>h o cU) ef;omega
theorem Un{ag:Type}{f:ag->Nat}{A:Nat}:∀{s:E ag},(∀a∈s,f a<=A)->(s.map f).sum<=A*F s
 |[],_=>ny _
 |a::s,h=>by
  simp only[hx,xN,l6,Nat.mul_succ];have G:=h a dh;have b:=Un (s:=s) λo ad=>h o cU
  omega
abbrev fG.je(x:fG)(j:Nat)(b:Int)(P:oK)(c:Int):fG:={x with ht:=λq p=>if q=j then(if p=b then B (P,c)else if x.fr j then M else x.ht j p)else x.ht q p,fr:=λq=>if q=j then Z else x.fr q,Y:=λy a=>if y=P.o/\a=P.nu then x.Y y a+1 else x.Y y a}
theorem g4.je(h:g4 n S K Q ak u aq x){j:Nat}(hi:j<n){P:oK}(ap:(Q j).dW.gH<=K)(Y:x.f6 P.o P.nu=.lw)(aO:P.p.e3+x.Y P.o P.nu<=255)(G:1<=P.p.e3)(aj:qg x P):(Q j).eA<65535/\g4 n S K (fo Q j {Q j with eA:=(Q j).eA+1}) ak u aq (x.je j (Q j).eA P (Q j).dl.eJ):=by
 have aW:=h.hA j hi;have ok:=aW.ok;have hS:=aW.q;have⟨e,aI,aK,aM,_⟩:=aj;have aP:xv x<=255*F x.L:=Un λa d=>(h.mT.1 a d).2.2.2.2.2
 have cN:=h.pk;have ax:=aW.tag;have aA:xv x<xv (x.je j (Q j).eA P (Q j).dl.eJ):=aeY (λa _=>by unfold fG.je;simp only;split<;>omega) ⟨e,aI,by unfold fG.je;simp only[aK,aM,and_self,if_true];omega⟩;have A:∀(q:Nat) (b:Int) v,(q=j->x.fr j=Z)->x.ht q b=B v->(x.je j (Q j).eA P (Q j).dl.eJ).ht q b=B v:=λq b v aC au=>by
  unfold fG.je;simp only;split
  next C=>subst C;rw[dA (by have:=(aW.pT<|aC rfl).2 b v au;omega),aC rfl];exact au
  .exact au
 have aa:∀q,(x.je j (Q j).eA P (Q j).dl.eJ).fr q=T->q≠j/\x.fr q=T:=λq C=>by
  unfold fG.je at C;simp only at C;split at C
  .cases C
  next au=>exact⟨au,C⟩
 have ao:∀q,x.fr q=Z->(x.je j (Q j).eA P (Q j).dl.eJ).fr q=Z:=λq C=>by
  unfold fG.je;simp only;split
  .rfl
  .exact C
 have av:∀y ae,x.f6 y ae≠.lw->(x.je j (Q j).eA P (Q j).dl.eJ).Y y ae=x.Y y ae:=λy ae C=>by unfold fG.je;simp only;rw[dA λe=>C (by rw[e.1,e.2];exact Y)]
 have ar:∀m,(fo Q j {Q j with eA:=(Q j).eA+1} m).dl=(Q m).dl/\(fo Q j {Q j with eA:=(Q j).eA+1} m).ga=(Q m).ga:=λm=>by
  unfold fo;split
  next C=>rw[C];exact⟨rfl,rfl⟩
  .exact⟨rfl,rfl⟩
 have k:=h.h.put λm=>(ar m).1
 have ay:∀q,(q=j->x.fr j=T->False)->q=j->x.fr j=Z:=λq C e=>by
  cases au:x.fr j with
  |false=>rfl
  |true=>exact(C e au).elim
 have ab:∀m,m<n->∀w∈(Q m).ex,LE (x.je j (Q j).eA P (Q j).dl.eJ) m w:=λm aw w ab=>by have⟨an,ag,ah,ai,s,t,p⟩:=(h.hA m aw).oA w ab;exact⟨an,ag,ah,ai,s,λi g b C=>A _ _ _ (λe=>e▸p i g b C)<|t i g b C,λi g b C=>ao _ (p i g b C)⟩
 have D:∀m,m<n->∀o∈x.kC m,o.u<=K+12/\(K<o.u->∃i c,uC (x.je j (Q j).eA P (Q j).dl.eJ) m (Q m).dl o i c):=λm aw o ad=>by
  refine⟨((h.hA m aw).kU o ad).1,λC=>?_⟩;have⟨i,c,l⟩:=((h.hA m aw).kU o ad).2 C;refine⟨i,c,A _ _ _ (ay _ λe aD=>?_) l.p4,l.kI,l.d,l.ds,l.dK,l.pq,λC=>l.fr (aa _ C).2,λlD=>⟨(l.f6 lD).1,?_⟩⟩
  .have:=l.fr (by rw[e];exact aD);rw[e]at this;omega
  .rw[av _ _ (by rw[(l.f6 lD).1];simp)];exact(l.f6 lD).2
 refine⟨I,h.jo,h.kL,h.kV,λm aw=>?_,⟨k.ok,k.xr,k.mN,k.old,k.vt,k.res,k.wZ,λan i N C=>?_,k.kI⟩,λf aN=>?_,λl D=>?_,h.jM,⟨λam aJ=>?_,h.mT.2⟩,h.pk,h.qv⟩
 .have aj:=h.hA m aw;unfold fo;split
  .rename_i C;subst C;have ok:=aj.ok;refine⟨{ok with tag:=⟨by have:=ok.tag.1;simp only;omega,ew⟩},aj.q,aj.eM,aj.jQ,aj.num,aj.mN,λC=>absurd rfl (aa _ C).1,λ_=>⟨by have:=aj.q;simp only[fG.je];omega,λb v C=>?_⟩,ew,ab m aw,aj.lP,aj.qQ,D m aw⟩;simp only[fG.je,if_true]at C;split at C
   next au=>simp only;omega
   .split at C
    .cases C
    next aL=>have:=(aj.pT Xt).2 b v C;simp only;omega
  next C=>refine⟨aj.ok,aj.q,aj.eM,aj.jQ,aj.num,aj.mN,λC=>aj.rM (aa _ C).2,λau=>?_,by have:=aj.tag;omega,ab m aw,aj.lP,aj.qQ,D m aw⟩;simp only[fG.je,dA C]at au⊢;exact aj.pT au
 .rcases k.jV an i N C with au|au
  .exact .inl au
  .exact .inr ⟨au.1,by rw[av _ _ (by rw[au.1];simp)];exact au.2⟩
 .have⟨ag,ah,ai,an,s,af,t,p,al,z⟩:=h.nV f aN;refine⟨ag,ah,ai,an,s,af,t,p,λi g b C=>A _ _ _ (ay _ λe aD=>?_)<|al i g b C,λi g b C au=>z i g b C (aa _ au).2⟩;have:=z i g b C (by rw[e];exact aD);rw[e]at this;omega
 .have⟨an,s,af,t,p,al,z⟩:=h.q7 l D;exact⟨an,s,af,t,p,λi g b C=>A _ _ _ (λe=>e▸z i g b C)<|al i g b C,λi g b C=>ao _ (z i g b C)⟩
 .rw[(ar am.o).2];have⟨az,aB,aE,aF,aG,aH⟩:=h.mT.1 am aJ;refine⟨az,aB,aE,aF,aG,?_⟩;unfold fG.je;simp only;split
  next C=>rw[C.1,C.2];omega
  .exact aH
def g4.akF(h:g4 n S K Q ak u aq x){v:gK}(ab:v.hC.gi≠1)(cN:F v.hC.lM.f7<=1000/\F v.hC.gA<=1000):g4 n S K Q ak u (aq++[v]) x:=by
 refine⟨h.jo,h.kL,h.kV,h.hA,h.h,h.nV,h.q7,⟨λw aK C=>?_,py.2 ⟨h.jM.2,dh,λt _ l a _ C=>?_⟩⟩,h.mT,h.pk,λw aK=>agR⟩
 .rcases gq.1 aK with aK|aK
  .exact h.jM.1 w aK C
  .rw[gO.1 aK]at C;exact absurd C ab
 .rw[gO.1 a]at C;exact absurd C ab
def g4.akG(h:g4 n S K Q ak u aq x){v:gK}{e:mG}(p:e∈x.L)(Y:x.f6 e.o e.nu=.lw)(G:v.hC.oY=fF e.o)(b:v.hC.ga=e.nu)(i:v.sB=e.b)(j:v.hC.lM={e.p with e3:=v.hC.lM.e3})(k:v.hC.lM.e3<=e.p.e3)(cN:F v.hC.lM.f7<=1000/\F v.hC.gA<=1000):g4 n S K Q ak u (aq++[v]) {x with f6:=qx x.f6 e.o e.nu .done}:=by
 have aF:=h.lw .done Y;refine⟨aF.jo,aF.kL,aF.kV,aF.hA,aF.h,aF.nV,aF.q7,⟨λw aK C=>?_,py.2 ⟨h.jM.2,dh,λt m l o aC _ aL aT=>?_⟩⟩,aF.mT,aF.pk,λw aK=>agR⟩
 .rcases gq.1 aK with aK|aK
  .exact aF.jM.1 w aK C
  .rw[gO.1 aK];exact⟨e,p,G,b,i,j,k,Cc⟩
 .rw[gO.1 o]at aL aT;have⟨s,q,d,g,_,_,_,a⟩:=h.jM.1 t m aC;rw[d,G]at aL;rw[vy aL,<-g,aT,b,Y]at a;cases a
abbrev fG.iA(x:fG)(e:mG):fG:={x with L:=x.L++[e],f6:=qx x.f6 e.o e.nu .lw,Y:=λy a=>if y=e.o/\a=e.nu then 0 else x.Y y a}
theorem g4.iA(h:g4 n S K Q ak u aq x){j:Nat}(hi:j<n){e:mG}(aG:e.o=j)(aD:e.nu=(Q j).ga)(aQ:e.b<n)(aH:lI e.o e.b e.p)(cN:F x.L<25):(Q j).ga<4294967295/\g4 n S K (fo Q j {Q j with ga:=(Q j).ga+1}) ak u aq (x.iA e):=by
 have aW:=h.hA j hi;have ax:=aW.num;have ay:=aW.ok.m5.res;have aR:∀b∈x.L,¬(b.o=e.o/\b.nu=e.nu):=λb i C=>by have:=(h.mT.1 b i).2.2.2.2.1;rw[C.1,C.2,aG,aD]at this;omega
 have D:∀P,qg x P->qg (x.iA e) P:=λP ⟨b,t,l⟩=>⟨b,r9 _ t,l⟩
 have z:∀P,qg x P->(x.iA e).f6 P.o P.nu=x.f6 P.o P.nu/\(x.iA e).Y P.o P.nu=x.Y P.o P.nu:=λP ⟨b,t,s,y,_⟩=>by have:=aR b t;rw[s,y]at this;exact⟨Ht this,dA this⟩
 have ar:∀m,(fo Q j {Q j with ga:=(Q j).ga+1} m).dl=(Q m).dl/\(Q m).ga<=(fo Q j {Q j with ga:=(Q j).ga+1} m).ga:=λm=>by
  unfold fo;split
  next C=>rw[C];exact ef
  .exact cU
 have g:=h.h.put λm=>(ar m).1
 have p:xv (x.iA e)=xv x:=by unfold xv fG.iA;simp only[hN,hx,jY,VF,xN,List.sum_nil,and_self,if_true,Nat.add_zero];congr 1;exact List.map_congr_left λa d=>dA cU
 refine⟨I,h.jo,h.kL,h.kV,λm aw=>?_,⟨g.ok,g.xr,g.mN,g.old,g.vt,g.res,g.wZ,λan P N C=>?_,λan N P C=>D P<|g.kI an N P C⟩,h.nV,h.q7,⟨λw p C=>?_,h.jM.2⟩,⟨λb i=>?_,py.2 ⟨h.mT.2,dh,λt ap l k aC au=>?_⟩⟩,by simp only[fG.iA,g9,lG];omega,h.qv⟩
 .have aj:=h.hA m aw;have k:∀o∈x.kC m,o.u<=K+12/\(K<o.u->∃q c,uC (x.iA e) m (Q m).dl o q c):=λo ad=>by refine⟨(aj.kU o ad).1,λC=>?_⟩;have⟨q,c,l⟩:=(aj.kU o ad).2 C;exact⟨q,c,l.p4,D _ l.kI,l.d,l.ds,l.dK,l.pq,l.fr,λlD=>by rw[(z _ l.kI).1,(z _ l.kI).2];exact l.f6 lD⟩
  have av:(F (x.iA e).L:Int)=F x.L+1:=by simp[fG.iA]
  have aA:=aj.num;unfold fo;split
  next C=>subst C;have ok:=aj.ok;exact⟨{ok with num:=⟨by have:=ok.num.1;simp only;omega,ew⟩},aj.q,aj.eM,aj.jQ,by rw[av];simp only;omega,aj.mN,aj.rM,aj.pT,by rw[p];exact aj.tag,aj.oA,aj.lP,aj.qQ,k⟩
  .exact⟨aj.ok,aj.q,aj.eM,aj.jQ,I,aj.mN,aj.rM,aj.pT,by rw[p];exact aj.tag,aj.oA,aj.lP,aj.qQ,k⟩
 .have:=z P (h.h.kI an N P (NW C).2);rw[this.1,this.2];exact g.jV an P N C
 .have⟨b,A,aa,ab,ae,af,ag,ah⟩:=h.jM.1 w p C;exact⟨b,r9 _ A,aa,ab,ae,af,ag,by show qx _ _ _ _ _ _=_;rw[Ht (aR b A)];exact ah⟩
 .rcases gq.1 i with i|i
  .have⟨s,y,ai,al,am,ao⟩:=h.mT.1 b i;exact⟨s,y,ai,al,HG am (ar _).2,by show(if _ then _ else _)<=_;rw[dA (aR b i)];exact ao⟩
  .rw[gO.1 i,aG];exact⟨hi,aQ,aG▸aH,by rw[aD];exact aW.ok.num.1,by rw[mV,aD];simp only;omega,by show(if _ then _ else _)<=_;rw[dE ⟨aG.symm,rfl⟩];omega⟩
 .rw[gO.1 k]at aC au;exact aR t ap ⟨aC,au⟩
abbrev fG.l9(x:fG)(j:Nat)(K v:Int)(N:Nat->Int):fG:={x with eB:=λr q=>if r=j then N q else x.eB r q,fr:=λq=>if q=j then T else x.fr q,R:=λq=>if q=j then K else x.R q,eH:=v,kC:=λq=>if q=j then[]else x.kC q}
theorem g4.l9(h:g4 n S K Q ak [] aq x){j:Nat}(hi:j<n){A:d3}(u:S+131072<=4294836223)(ok:uZ n j A)(aS:A.dl.d8=[])(aN:x.eH<A.dl.it)(a2:A.dl.eJ=(Q j).dl.h3)(aP:A.dl.h3=(Q j).dl.h3+65536)(aG:A.dW.gH=K+16)(aD:A.ga=(Q j).dl.h3)(aQ:A.eA=0)(aH:A.ex=[])(aF:A.g1=[]):g4 n (S+131072) K (fo Q j A) ak [] aq (x.l9 j K A.dl.it λq=>(fo Q j A q).dl.eJ):=by
 have aU:=h.kV;have aY:=h.kL;have aW:=h.hA j hi;have aV:=aW.ok.m5.jQ;have aX:=aW.num;have cN:=h.pk;have am:∀m,(Q m).dl.eJ<=(fo Q j A m).dl.eJ:=λm=>by
  unfold fo;split
  next C=>rw[C];omega
  .exact nK _
 have i:∀m,m≠j->(fo Q j A m).dl=(Q m).dl:=λm C=>by rw[Ux Q A C]
 have ao:∀r q c,r≠j->(mH (x.l9 j K A.dl.it λq=>(fo Q j A q).dl.eJ) r (fo Q j A r).dl q c↔mH x r (Q r).dl q c):=λr q c C=>by unfold mH fG.l9;simp only[dA C];rw[i r C]
 have aK:∀m,(Q m).ga<=(fo Q j A m).ga+0:=λm=>by
  unfold fo;split
  next C=>rw[C];omega
  .omega
 refine⟨h.jo,h.kL,dd,λm aw=>?_,⟨λa d=>⟨(h.h.ok a d).1,HG (h.h.ok a d).2 cU⟩,h.h.xr,λt l al u C=>?_,λa v d C=>?_,λa v d C r ay au=>?_,λa v m d C r ay aR au=>?_,λr q ay aj=>?_,λa P d C=>?_,h.h.kI⟩,λf aJ=>?_,λl u=>cU,h.jM,⟨λe aI=>?_,h.mT.2⟩,h.pk,h.qv⟩
 .by_cases e:m=j
  .subst e;rw[mV];have ai:(x.l9 m K A.dl.it λq=>(fo Q m A q).dl.eJ).R m=K:=dE rfl;have aE:(x.l9 m K A.dl.it λq=>(fo Q m A q).dl.eJ).fr m=T:=dE rfl;have ab:(x.l9 m K A.dl.it λq=>(fo Q m A q).dl.eJ).kC m=[]:=dE rfl;refine⟨ok,by rw[ai];omega,by rw[ai];omega,?_,by show _<=_+(F x.L:Int);omega,nK _,λ_=>aQ,λC=>(by rw[aE]at C;cases C),?_,by rw[aH];simp,by rw[ab,aF];rfl,by rw[ab];exact⟨dh,dh,dh⟩,by rw[ab];simp⟩
   .have:=aW.jQ;omega
   .have:(0:Int)<=(xv (x.l9 m K A.dl.it λq=>(fo Q m A q).dl.eJ):Int):=by omega
    omega
  .have aj:=h.hA m aw;rw[Ux Q A e];have b:∀{ag:Type} {t l:ag},(if m=j then t else l)=l:=dA e;have ae:=aj.mN;refine⟨aj.ok,by simp only[fG.l9,b];exact aj.q,by simp only[fG.l9,b];exact aj.eM,by have:=aj.jQ;omega,aj.num,by simp only[fG.l9];omega,by simp only[fG.l9,b];exact aj.rM,by simp only[fG.l9,b];exact aj.pT,aj.tag,λw aM=>?_,by simp only[fG.l9,b];exact aj.lP,by simp only[fG.l9,b];exact aj.qQ,?_⟩
   .have⟨an,y,p,s,D,N,aa⟩:=aj.oA w aM;exact⟨an,y,p,s,D,N,λP g ah C=>by simp only[fG.l9];rw[dA (by rw[p];exact e)];exact aa P g ah C⟩
   .simp only[fG.l9,b];refine λo ad=>⟨(aj.kU o ad).1,λC=>?_⟩
    have⟨P,c,l⟩:=(aj.kU o ad).2 C;refine⟨P,c,l.p4,l.kI,l.d,l.ds,l.dK,λg af=>?_,λau=>?_,l.f6⟩
    .have:=(ao m o.s (c+g) e).2 (l.pq g af);rw[Ux Q A e]at this;exact this
    .have aT:=(aj.kU o ad).1;simp only at au⊢;split
     .omega
     next aL=>rw[dA aL]at au;exact l.fr au
 .have ae:∀m,m<n->m≠j->(fo Q j A m).dl.it≠A.dl.it:=λm aw C=>by rw[i m C];have:=(h.hA m aw).mN;omega
  by_cases e:t=j
  .subst e;by_cases k:l=t
   .exact k.symm
   .rw[mV]at C;exact absurd C.symm<|ae l u k
  .by_cases k:l=j
   .subst k;rw[mV]at C;exact absurd C<|ae t al e
   .rw[i t e,i l k]at C;exact h.h.mN t l al u C
 .have:=h.h.old a v d C;simp only[fG.l9];omega
 .by_cases e:r=j
  .rw[e,mV]at au;have:=h.h.old a v d (.inl C);omega
  .rw[i r e]at au;exact h.h.vt a v d C r ay au
 .by_cases e:r=j
  .rw[e,mV]at au;have:=h.h.old a v d (.inr ⟨m,C⟩);omega
  .rw[i r e]at au;simp only[fG.l9,dA e];exact h.h.res a v m d C r ay aR au
 .simp only[fG.l9];split
  .exact nK _
  .exact Int.le_trans (h.h.wZ r q ay aj)<|am q
 .by_cases e:P.r=j
  .refine .inl (.inr ⟨?_,?_⟩)
   .rw[e,mV];rintro⟨z,Y,_⟩;rw[aS]at Y;cases Y
   .simp only[fG.l9,dE e];exact HG (h.h.ok a d).2<|am _
  .rcases h.h.jV a P d C with au|au
   .exact .inl<|(ao _ _ _ e).2 au
   .exact .inr au
 .have⟨y,p,s,an,D,ap,N,aa,ar,av⟩:=h.nV f aJ;refine⟨y,p,s,an,D,ap,N,aa,ar,λP g ah C au=>?_⟩;simp only[fG.l9]at au⊢;split
  .exact s
  next aL=>rw[dA aL]at au;exact av P g ah C au
 .have⟨ax,az,aA,aB,aO,aC⟩:=h.mT.1 e aI;exact⟨ax,az,aA,aB,by have:=aK e.o;omega,aC⟩
theorem g4.asq(h:g4 n S K Q ak [] aq x)(ax:K+1<=100000){a:E (Nat×Int×E Int)}(g:∀f∈a,f∈ak/\K<f.2.1):g4 n S (K+1) Q a [] aq x:=by
 have s:=h.kL;refine⟨h.jo,dd,h.kV,λm aw=>?_,h.h,λf i=>?_,λl q=>cU,h.jM,h.mT,h.pk,h.qv⟩
 .have aj:=h.hA m aw;exact{aj with eM:=by have:=aj.eM;omega,pT:=λC=>⟨by have:=(aj.pT C).1;omega,(aj.pT C).2⟩,kU:=λo ad=>⟨by have:=(aj.kU o ad).1;omega,λC=>(aj.kU o ad).2 I⟩}
 .have⟨G,p⟩:=g f i;have⟨b,j,k,d⟩:=h.nV f G;exact⟨b,I,I,d⟩
theorem g4.y2(h:g4 n S K Q ak u aq x){b:E (Nat×Int×E Int)}{d:E gK}(t:∀f∈b,f∈ak\/(f.1<n/\K+1<=f.2.1/\f.2.1<=K+3/\∃q,q≠f.1/\(q,f.2.2)∈u))(y:d.Sublist aq):g4 n S K Q b [] d x:=by
 refine⟨h.jo,h.kL,h.kV,h.hA,h.h,λf z=>?_,λl A=>cU,⟨λv ab=>h.jM.1 v ef,h.jM.2.sublist y⟩,h.mT,h.pk,λv ab=>h.qv v ef⟩;rcases t f z with C|⟨aC,au,aL,q,lD,aT⟩
 .exact h.nV f C
 .have⟨an,k,j,m,o,p,s⟩:=h.q7 _ aT;refine⟨aC,I,aL,an,k,by rw[j];exact lD,m,λa l i C=>by have:=o a l i C;omega,p,λP g a C au=>?_⟩;rw[s P g a C]at au;cases au
def qV(K:Int)(j:Nat)(e:gP):gK:=⟨K,(j:Int),e⟩
structure gb(n:Nat)(S:Int)(j:Nat)(Q:Nat->d3)(ak:E (Nat×Int×E Int))(aq:E gK)(w:fs)(x:fG):Prop where
 gd:g4 n S w.now (fo Q j w.n) ak (w.eL.map λl=>(j,l)) (aq++w.im.map (qV w.now j)) x
 fl:F w.eL<=30000
 ev:F w.im<=10
theorem yY{n:Nat}(cR:n<=4){P:oK}(h:zO n P):fS P.c/\F P.c=28+F P.w/\pA (m7 P.c):=by have cK:=h.o;have b:=h.b;have cN:=h.len;have G:fS P.c:=afH I I h.w;have a:F P.c=28+F P.w:=afG _ _ _ _ _;exact⟨G,a,amz G I I⟩
theorem akR{i:mA}(h:pA i){tag:Int}{g:Nat}(af:g<i.eH):fS (m4 i tag g):=by
 have:=h.sV;refine hY (ko _ _)<|hY (ko _ _)<|hY ?_<|Z6 h g;unfold sY;split
 .exact λan N=>ry
 .exact ua I
theorem Nx{n q:Nat}(cR:n<=4){o:j6}(h:o.ok n q):fS o.p/\F o.p<=95:=by
 have c:∀(a v:Int),0<=a/\a<=255->fS ([a]++d4 v 4)/\F ([a]++d4 v 4)<=95:=λa v d=>⟨hY (ua d)<|ko _ _,of⟩
 cases o with
 |nY v=>exact c 1 v I
 |po v r=>exact c 2 v I
 |qj v r=>exact c 3 v I
 |nI k l i=>obtain⟨_,⟨s,rfl,b,_,_,j⟩,_⟩:=h;exact⟨adL cR b,j⟩
 |c_ P=>exact⟨(yY cR h.1).1,h.2.2⟩
 |mL P g tag=>exact⟨akR (yY cR h.1).2.2 h.2.2.1,aah (yY cR h.1).2.2 tag g h.2.2.1⟩
theorem adI{n q:Nat}(cR:n<=4){o:j6}(h:o.ok n q):nM o.d:=λm aw=>by
 cases o with
 |nY v=>cases aw
 |po v r=>cases aw;have:=h.2;omega
 |qj v r=>cases aw;have:=h.2;omega
 |nI a l i=>have:=h.2.2 m aw;omega
 |c_ P=>cases aw;have:=h.1.r;omega
 |mL P g tag=>cases aw;have:=h.1.r;omega
theorem K8{n:Nat}(cR:n<=4){a:nD}{l:E Int}(h:wC a l)(cK:a.y.ok n a.s):F l<=127:=by obtain⟨j,b,d,g,i,v,_,_,_,rfl⟩:=h;have:=(Nx cR cK).2;have:=ZB (g:=a.y.k) (C:=a.q) (i:=a.y.d) (j:=a.s) (c:=a.c) (z:=a.y.p) b d g i v;omega
structure Fc(n:Nat)(j:Nat)(K:Int)(ae:eR)(x:fG)(c:Int)(o:j6):Prop where
 ok:o.ok n j
 vt:∀v,o=.nY v->v=ae.it
 res:∀v r,o=.po v r->v<=x.eH
 TY:∀a l i,o=.nI a l i->a=K
 Mo:∀P g tag,o=.mL P g tag->x.ht j tag=B (P,c-g)/\x.fr j=Z
 kI:∀P,(o=.c_ P\/∃g tag,o=.mL P g tag)->qg x P
 jV:∀P,o.jV=B P->x.f6 P.o P.nu=.lw/\P.p.e3+x.Y P.o P.nu<=256
variable{j:Nat}{w:fs}
def gb.hA(h:gb n S j Q ak aq w x)(hi:j<n):ss n S w.now x j w.n:=by have:=h.gd.hA j hi;rwa[mV]at this
def Hw(w:fs)(v:(E Int)×Int×Bool×eR×Int×(E (E Int))):fs:={w with n.dl:=v.2.2.2.1,n.dx:=v.2.2.2.2.1,eL:=v.2.2.2.2.2}
theorem Hu(h:gb n S j Q ak aq w x)(hi:j<n)(z:S+1<=4294836223)(ai:F w.eL<30000){o:j6}(ad:Fc n j w.now w.n.dl x w.n.dl.eJ o):de (wr w (q2 o.k) (om o.d) o.p) λv=>v.2.2.1=T/\v.2.1=w.n.dl.eJ/\wC ⟨j,w.n.dl.eJ,w.n.dx,o⟩ v.1/\v.2.2.2.2.2=w.eL++[v.1]/\v.2.2.2.1.eJ=w.n.dl.eJ+1/\v.2.2.2.1.d8=w.n.dl.d8/\gb n (S+1) j Q ak aq (Hw w v) (x.pp ⟨j,w.n.dl.eJ,w.n.dx,o⟩):=by
 have aW:=h.hA hi;have cR:=h.gd.jo;have ok:=aW.ok;have ar:=ok.m5;have al:=ar.jQ;have am:=ar.res;have ah:=aW.jQ;have ag:=h.gd.kV;have aj:=h.fl;have⟨an,f6⟩:=Nx cR ad.ok;have d:∀ae:eR,qF n j ae->ae.eJ=w.n.dl.eJ->ae.d8=w.n.dl.d8->ae.it=w.n.dl.it->ae.eJ≠ae.h3->w.n.dl.h3<=ae.h3->ae.h3<=S+65537->de (Ai w (q2 o.k) (om o.d) o.p ae) λv=>v.2.2.1=T/\v.2.1=w.n.dl.eJ/\wC ⟨j,w.n.dl.eJ,w.n.dx,o⟩ v.1/\v.2.2.2.2.2=w.eL++[v.1]/\v.2.2.2.1.eJ=w.n.dl.eJ+1/\v.2.2.2.1.d8=w.n.dl.d8/\gb n (S+1) j Q ak aq (Hw w v) (x.pp ⟨j,w.n.dl.eJ,w.n.dx,o⟩):=by intro ae jt aC au aL aT aK a6;have⟨K,l,G,s,t⟩:=ala cR hi jt aT (g:=o.k) (C:=w.n.dx) (i:=o.d) (adI cR ad.ok) f6;have af:=jt.jQ;have y:=jt.res;unfold Ai nO;rw[ok.g8];simp only[cI];have e:(⟨q2 o.k,Z,Z,Z,w.n.dx,(g8 j).o2,om o.d,⟨3,0,(g8 j).h1⟩,0,0,o.p,[]⟩:hd)=Br o.k w.n.dx o.d j o.p:=rfl;rw[e,s];simp only[cI,(J:((0:Int) !=0)=Z),dm,t];rw[he _ _ I E2,cI,dg];simp only[cQ.cL];rw[aC]at G;have b:wC ⟨j,w.n.dl.eJ,w.n.dx,o⟩ l:=⟨K,G⟩;refine⟨trivial,aC,b,trivial,by rw[aC],au,?_,by simp[Hw];omega,h.ev⟩;have D:0<=U cH (w.n.dx+1)/\U cH (w.n.dx+1)<256:=Xv;have u:qF n j {ae with eJ:=ae.eJ+1}:=⟨jt.rP,ew,y,jt.t9,jt.all,jt.r4⟩;have:=h.gd.pp hi (A:=(Hw w (l,ae.eJ,T,{ae with eJ:=ae.eJ+1},U cH<|w.n.dx+1,w.eL++[l])).n) (a:=⟨j,w.n.dl.eJ,w.n.dx,o⟩) (l:=l) z {ok with m5:=u,seq:=D} (by rw[mV];exact au) (by rw[mV];exact aL) (by rw[mV];exact congrArg (·+1) aC) (by rw[mV];exact aK) a6 AQ AQ AQ AQ AQ rfl (by rw[mV]) ⟨hi,ok.seq,⟨ew,ew⟩,ad.ok⟩ b (by rw[mV];exact ad.vt) ad.res ad.TY (λP g tag C=>(ad.Mo P g tag C).1) (λP g tag C=>(ad.Mo P g tag C).2) ad.kI ad.jV;rw[Hs]at this;simp only[Hw,hN,hx,jY];exact this
 unfold wr;by_cases C:w.n.dl.eJ=w.n.dl.h3
 .rw[beq_iff_eq.2 C,c6];refine(aax cR ar).bind λv ab=>?_
  have⟨i,k,m,p,q,N⟩:=ab;rw[i];have aa:v.1.h3=w.n.dl.h3+65536:=I;exact d _ k m q p I I I
 .rw[hl C,dm];exact d _ ar rfl rfl rfl C dd I
def mi(x ai:fG):Prop:=∃b,ai={x with H:=b}/\∀a,x.H a->b a
def mi.rfl'{x:fG}:mi x x:=⟨x.H,rfl,λ_ h=>h⟩
theorem mi.trans{x ai b:fG}(h:mi x ai)(g:mi ai b):mi x b:=by obtain⟨H,rfl,G⟩:=h;obtain⟨d,rfl,i⟩:=g;exact⟨d,rfl,λa C=>i a cU⟩
def MI{x:fG}{a:nD}(h:a.y.jV=M):mi x (x.pp a):=⟨λo=>x.H o\/o=a,by simp only[fG.pp,h],λ_ C=>.inl C⟩
def g5(x ai:fG):Prop:=ai.L=x.L/\ai.eH=x.eH
def g5.rfl'{x:fG}:g5 x x:=⟨rfl,rfl⟩
def g5.trans{x ai a:fG}(h:g5 x ai)(g:g5 ai a):g5 x a:=⟨g.1.trans h.1,g.2.trans h.2⟩
def mi.y9{x ai:fG}(h:mi x ai):g5 x ai:=by obtain⟨H,rfl,_⟩:=h;exact⟨rfl,rfl⟩
def ps(w:fs)(ae:eR)(C:Int)(s:E (E Int)):fs:={w with n.dl:=ae,n.dx:=C,eL:=s}
theorem TX{l v:Int}(b:l=1\/l=2\/l=3):xS (m8 l v)=B (if l=1 then(m8 2 v,T)else([],Z)):=by
 have cN:F (m8 l v)=5:=by simp[m8,gY]
 have e:xS (m8 l v)=bif ((5:Int) !=5)then M else(B l).bind λaD=>bif (aD !=1)then B (([]:E Int),Z)else(B<|d4 v 4).bind λd=>(ej 1 ([2]:E Int) d).bind λg=>B (g,T):=by
  unfold xS;rw[cN,(J:di (m8 l v) 0=B l)];rw[pr I I (by rw[cN];omega)];have:((m8 l v).take ((5:Nat):Int).toNat).drop (1:Int).toNat=d4 v 4:=by rw[gz,<-cN,iV];rfl
  rw[this];rfl
 have a:ej 1 ([2]:E Int) (d4 v 4)=B (m8 2 v):=by rw[i8 of of];rfl
 rw[e];simp only[cI,a];rcases b with rfl|rfl|rfl<;>rfl
def al0{o:j6}(h:o.k=Z):q2 o.k=1:=Lh
def gb.mono(h:gb n S j Q ak aq w x){k:Int}(G:S<=k)(a:k<=4294836223):gb n k j Q ak aq w x:=⟨h.gd.mono G a,h.fl,h.ev⟩
theorem afn(h:gb n S j Q ak aq w x)(hi:j<n)(g:S+1<=4294836223)(i:F w.eL<30000){f:hd}{q:Nat}(aj:q<n)(G:f.dU=fN q)(a:iK f.eJ):de (Ac w f) λv=>F v.2.2=F w.eL+1/\v.1.d8=w.n.dl.d8/\∃ai,mi x ai/\gb n (S+1) j Q ak aq (ps w v.1 v.2.1 v.2.2) ai:=by
 have e:hy [3] (U cZ f.eJ) 4=B ([3]++d4 f.eJ 4):=by rw[ju a.1 (by have:=a.2;omega)];exact k1 [3] _ 4 I dh
 unfold Ac;rw[e,cI,G];refine(Hu h hi g i (o:=.qj f.eJ q) ⟨⟨a,aj⟩,nofun,nofun,nofun,nofun,λP C=>cU,nofun⟩).bind λv ab=>dg.2 ?_
 have⟨_,_,_,av,_,b,d⟩:=ab;exact⟨agS,b,_,MI rfl,d⟩
theorem afo(h:gb n S j Q ak aq w x)(hi:j<n)(g:S+1<=4294836223)(m:F w.eL<30000){f:hd}{a:nD}(d:x.H a)(af:a.y.k=T)(G:f.dU=fN a.s)(b:f.f7=a.y.p):de (uR w f) λv=>(v.1=T↔∃p,a.y=.nY p)/\F v.2.2.2<=F w.eL+1/\∃ai,mi x ai/\gb n (S+1) j Q ak aq (ps w v.2.1 v.2.2.1 v.2.2.2) ai:=by
 have o:=h.gd.kV;have⟨⟨ae,_,_,k⟩,_⟩:=h.gd.h.ok a d;have i:(¬∃p,a.y=.nY p)->xS a.y.p=B ([],Z)->de (uR w f) λv=>(v.1=T↔∃p,a.y=.nY p)/\F v.2.2.2<=F w.eL+1/\∃ai,mi x ai/\gb n (S+1) j Q ak aq (ps w v.2.1 v.2.2.1 v.2.2.2) ai:=λaC au=>by unfold uR Dq;rw[b,au,cI,dm,dg];exact⟨cU,ew,x,mi.rfl',h.mono I g⟩
 cases e:a.y with
 |nY p=>
  rw[e]at k;have r:xS a.y.p=B (m8 2 p,T):=by rw[e];exact TX (l:=1) dd
  unfold uR Dq;rw[b,r,cI,c6,G];refine(Hu h hi g m (o:=.po p a.s) ⟨⟨k,ae⟩,nofun,λv r C=>by cases C;exact h.gd.h.old a _ d cU,nofun,nofun,λP C=>cU,nofun⟩).bind λv ab=>dg.2 ?_
  have⟨_,_,_,av,_,_,l⟩:=ab;exact⟨cU,agT,_,MI rfl,l⟩
 |po p r=>have:=i cU (by rw[e];exact TX (l:=2) dd);rwa[e]at this
 |qj p r=>have:=i cU (by rw[e];exact TX (l:=3) dd);rwa[e]at this
 |_=>rw[e]at af;cases af
def afu(h:gb n S j Q ak aq w x)(hi:j<n)(b:S+1<=4294836223)(g:F w.eL<30000){o:j6}(d:o.d=M)(ax:o.jV=M)(ad:Fc n j w.now w.n.dl x w.n.dl.eJ o):de (Dz w (q2 o.k) o.p) λv=>F v.2.2=F w.eL+1/\∃ai,mi x ai/\gb n (S+1) j Q ak aq (ps w v.1 v.2.1 v.2.2) ai:=by
 unfold Dz;have:=Hu h hi b g ad;rw[d]at this;refine de.bind this λv ab=>dg.2 ?_
 have⟨_,_,_,av,_,_,a⟩:=ab;exact⟨agS,_,MI ax,a⟩
theorem aeG{n:Nat}{K:Int}{ae:eR}{c:Int}{l:E Int}{i:X Nat}(ax:0<=K/\K<1099511627776)(a:AS n K l)(b:∀m,i=B m->m<n):Fc n j K ae x c (.nI K l i):=⟨⟨ax,a,b⟩,nofun,nofun,λd l i C=>by cases C;rfl,nofun,λP C=>cU,nofun⟩
theorem aft(h:gb n S j Q ak aq w x)(hi:j<n){s:E hq}(cN:∀i∈s,nT n j i)(aB:F s<=101)(k:S+10100<=4294836223)(aA:F w.eL<=10000):de (DA w s) λv=>F v.2.2<=F w.eL+10100/\∃ai,mi x ai/\gb n (S+10100) j Q ak aq (ps w v.1 v.2.1 v.2.2) ai:=by
 have cR:=h.gd.jo;have aE:=h.gd.kL;have az:=h.gd.kV;have ax:0<=w.now/\w.now<1099511627776:=I;unfold DA;rw[hl I,dm];refine de.bind (u:=λl=>F l.2.2<=F w.eL+10100/\∃ai,mi x ai/\gb n (S+10100) j Q ak aq (ps w l.1 l.2.1 l.2.2) ai) (hk (λa=>∃g:Nat,a.1=(g:Int)/\g<=F s/\F a.2.2.2<=F w.eL+100*g/\∃ai,mi x ai/\gb n (S+100*g) j Q ak aq (ps w a.2.1 a.2.2.1 a.2.2.2) ai) (λa=>((F s:Int)-a.1).toNat) (λa d=>?_) ⟨0,rfl,I,jq _,x,mi.rfl',h.mono I I⟩) λl k=>dg.2 k
 have⟨aI,ae,C,t⟩:=a;have⟨g,ad,af,ap,aS,y,q⟩:=d;simp only at ad ap q;subst ad;unfold Wf;simp only;by_cases o:g<F s
 .rw[dO,dz o,c6,et o,cI,e7 I];have⟨z,D,K,P⟩:=cN _ (fi o);generalize s[g]=av at z D K P;refine(aqt cR ax D P K).bind λb aa=>?_
  refine de.bind (u:=λl=>F l.2.2<=F w.eL+100*(g+1)/\∃ai,mi x ai/\gb n (S+100*(g+1)) j Q ak aq (ps w l.1 l.2.1 l.2.2) ai) (hk (λa=>∃A:Nat,a.1=(A:Int)/\A<=F b.1/\F a.2.2.2<=F w.eL+100*g+A/\∃ai,mi x ai/\gb n (S+100*g+A) j Q ak aq (ps w a.2.1 a.2.2.1 a.2.2.2) ai) (λa=>((F b.1:Int)-a.1).toNat) (λa d=>?_) ⟨0,rfl,I,ew,aS,y,by have:=q;simpa using this⟩) λl k=>dg.2<|.inl ⟨_,rfl,⟨g+1,rfl,I,k.1,k.2⟩,ew⟩
  have⟨aJ,ae,C,t⟩:=a;have⟨A,ag,aC,aG,aN,aD,aQ⟩:=d;simp only at ag aG aQ;subst ag;have ay:=aa.2.2;unfold Wg Ju;simp only;by_cases p:A<F b.1
  .rw[dO,dz p,c6,et p,cI,e7 I];have u:=aa.2.1 _ (fi p);generalize b.1[A]=l at u;have ah:∀(v:eR×Int×E (E Int)),F v.2.2=F t+1->(∃ai,mi aN ai/\gb n (S+100*g+A+1) j Q ak aq (ps (ps w ae C t) v.1 v.2.1 v.2.2) ai)->de (B (dV (((A+1:Nat):Int),v.1,v.2.1,v.2.2)):X ((Int×eR×Int×(E<|E Int))⊕(eR×Int×(E<|E Int)))) λa=>(∃ao,a=.inl ao/\(∃A:Nat,ao.1=(A:Int)/\A<=F b.1/\F ao.2.2.2<=F w.eL+100*g+A/\∃ai,mi x ai/\gb n (S+100*g+A) j Q ak aq (ps w ao.2.1 ao.2.2.1 ao.2.2.2) ai)/\((F b.1:Int)-ao.1).toNat<((F b.1:Int)-((A:Nat):Int)).toNat)\/∃r,a=.inr r/\F r.2.2<=F w.eL+100*(g+1)/\∃ai,mi x ai/\gb n (S+100*(g+1)) j Q ak aq (ps w r.1 r.2.1 r.2.2) ai:=by rintro v aw ⟨ai,aj,al⟩;refine dg.2<|.inl ⟨_,rfl,⟨A+1,rfl,I,ew,ai,aD.trans aj,?_⟩,ew⟩;have:=al;rwa[OD]at this
   by_cases N:av.c3=0
   .rw[beq_iff_eq.2 N,c6];exact de.bind (afu aQ hi I (by simp only[ps];omega) (o:=.nI w.now l M) rfl rfl (aeG ax u nofun)) λv ab=>ah v ab.1 ab.2
   .rw[hl N,dm];have⟨m,ar,aH,au⟩:=z.resolve_left N;rw[au];unfold nO;rw[cI];refine de.bind (Hu aQ hi I (by simp only[ps];omega) (o:=.nI w.now l<|B m) (aeG ax u λaF C=>by cases C;exact ar)) λv ab=>?_
    have⟨_,_,_,am,_,_,an⟩:=ab;exact ah (v.2.2.2.1,v.2.2.2.2.1,v.2.2.2.2.2) (by simp only[am,ps,g9,lG]) ⟨_,MI rfl,an⟩
  .rw[dO,dr p,dm];exact dg.2<|.inr ⟨_,rfl,ew,aN,aD,aQ.mono I I⟩
 .rw[dO,dr o,dm];exact dg.2<|.inr ⟨_,rfl,ew,aS,y,q.mono I I⟩
def UG(w:fs)(v:Int×eR×Int×(E es)×(E (E Int))):fs:={w with n.dl:=v.2.1,n.dx:=v.2.2.1,n.ex:=v.2.2.2.1,eL:=v.2.2.2.2}
def zw(w:fs)(v:Int×eR×Int×Int×(E es)×(E (E Int))):fs:={w with n.dl:=v.2.1,n.dx:=v.2.2.1,n.eA:=v.2.2.2.1,n.ex:=v.2.2.2.2.1,eL:=v.2.2.2.2.2}
structure EK(n j:Nat)(x:fG)(b:Int)(y:Nat)(a:Int)(l:Nat)(z:ee):Prop where
 cK:y<n
 aaP:l<n
 aaQ:0<=b/\b<=1099511627775
 aaX:iK a
 lt:lI y l z
 f6:x.f6 y a=.lw
 kI:∃e∈x.L,e.o=y/\e.nu=a/\e.b=l/\z={e.p with e3:=z.e3}/\z.e3<=e.p.e3
 Y:l≠j->z.e3+x.Y y a<=255
theorem abf{K:Int}(ax:0<=K/\K<=100000)(i:Nat)(a:i<1000):∃v,tz K (i:Int)=B v/\fy v:=by unfold tz;exact⟨_,rfl,xo pK i a⟩
theorem afs(h:gb n S j Q ak aq w x)(hi:j<n)(z:S+1<=4294836223)(K:F w.eL<30000){o:j6}{r:Nat}(ay:r<n)(D:o.d=B r)(af:o.k=Z)(aa:∀k l i,o≠.nI k l i)(ad:Fc n j w.now w.n.dl x w.n.dl.eJ o):de (Dv w (fF r) o.p) λv=>F v.2.2.2.2<=F w.eL+1/\((v.1=10/\gb n S j Q ak aq (UG w v) x)\/(v.1=0/\v.2.1.eJ=w.n.dl.eJ+1/\v.2.1.d8=w.n.dl.d8/\gb n (S+1) j Q ak aq (UG w v) (x.pp ⟨j,w.n.dl.eJ,w.n.dx,o⟩))):=by
 have aW:=h.hA hi;have cR:=h.gd.jo;have⟨k,aQ,ae⟩:=abf h.gd.kL 3 I;rw[(J:((3:Nat):Int)=3)]at aQ;unfold Dv Jp;refine ep.2 ⟨λ_=>dg.2 ⟨ew,.inl ⟨rfl,h⟩⟩,λC=>?_⟩;have cN:F w.n.ex<32:=agU;unfold nO;rw[cI];have:=Hu h hi z K ad;rw[D,al0 af]at this;refine de.bind this λv ab=>?_
 have⟨p,q,m,av,s,t,a⟩:=ab;have y:=K8 cR m ad.ok;rw[p,c6];have u:nN v.1=B v.1:=by unfold nN;exact qq o1 o1
 rw[u,cI,aQ,cI,iV,he _ _ I E2,cI,dg];refine⟨agT,.inr ⟨rfl,s,t,?_⟩⟩;have b:=a.hA hi;have d:=b.ok;have ai:=d.m5;have aj:=a.gd.put hi (A:=(UG w (0,v.2.2.2.1,v.2.2.2.2.1,w.n.ex++[⟨fF r,v.2.1,v.1,3,k⟩],v.2.2.2.2.2)).n) (b.aeH {d with tg:=?_,oB:=?_} rfl (nK _) rfl rfl ?_ rfl) AQ AQ
 .rw[Hs]at aj;exact⟨aj,a.fl,a.ev⟩
 .show F (w.n.ex++[_])<=32;simp only[g9,lG];omega
 .intro an N;rcases gq.1 N with N|N
  .exact d.oB an N
  .rw[gO.1 N];have ag:=aW.ok.m5.jQ;have ah:=aW.ok.m5.res;exact⟨⟨r,ay,rfl⟩,by rw[q];unfold iK;simp only;omega,y,ew,ew,ae⟩
 .intro an N;rcases gq.1 N with N|N
  .exact b.oA an N
  .rw[gO.1 N];exact⟨_,.inr rfl,rfl,m,aa,λP g tag C=>(ad.Mo P g tag C).1,λP g tag C=>(ad.Mo P g tag C).2⟩
theorem as7(h:gb n S j Q ak aq w x)(hi:j<n)(s:S+20<=4294836223)(aQ:F w.eL<=20000){p:Int}{y:Nat}{t:Int}{l:Nat}{z:ee}(b:EK n j x p y t l z)(aD:l≠j)(ap:w.n.dW.gH<=w.now){r:Nat}(ay:r<n):de (Jl w ⟨p,fF y,t,dst l⟩ z (fF r)) λv=>F v.2.2.2.2.2<=F w.eL+20/\∃ai,g5 x ai/\gb n (S+20) j Q ak aq (zw w v) ai:=by
 have aW:=h.hA hi;have ok:=aW.ok;have cR:=h.gd.jo;have cK:=b.cK;have aF:=b.aaP;have aR:=h.gd.kL;have aP:=h.gd.kV;have ax:0<=w.now/\w.now<1099511627776:=I;have⟨aK,aY,aZ⟩:=afJ (q:=j) (r:=r) dd dd b.lt;obtain⟨P,i⟩:∃P:oK,P=⟨j,r,p,y,t,l,z,th y j l r z⟩:=cU;have q:zO n P:=by subst i;exact⟨hi,ay,cK,aF,b.aaQ,b.aaX,b.lt,aK,ew,λaV ax=>aki I I I I b.lt ax⟩
 have aa:qg x P:=by subst i;exact b.kI
 have N:x.f6 P.o P.nu=.lw:=by subst i;exact b.f6
 have aB:P.p.e3+x.Y P.o P.nu<=255:=by subst i;exact b.Y aD
 have an:P.s=j:=by subst i;rfl
 have dK:P.r=r:=by subst i;rfl
 have⟨aM,az,K⟩:=yY cR q;have aN:F P.c<=300:=by rw[az];subst i;simp only;omega
 unfold Jl nO;rw[ok.g8];simp only[cI];have aA:CA z ⟨3,0,(g8 j).h1⟩ ⟨3,0,fF r⟩ (g8 j).m0 w.now=B (P.w,0):=by subst i;exact akj I I I I b.lt ax
 rw[aA];simp only[cI,(J:((0:Int) !=0)=Z),dm];have aJ:Dl ⟨p,fF y,t,dst l⟩ P.w=B P.c:=by subst i;exact atf b.aaQ b.aaX I I dd
 rw[aJ,cI];refine ep.2 ⟨λC=>?_,λC=>?_⟩
 .have aC:F P.c<=95:=by have:=f8 C;omega
  refine(afs h hi I I (o:=.c_ P) ay (by show B P.r=_;rw[dK]) rfl nofun ⟨⟨q,an,aC⟩,nofun,nofun,nofun,nofun,λk C=>?_,λk C=>by cases C;exact⟨N,I⟩⟩).bind λv ab=>dg.2 ?_
  .rcases C with C|⟨_,_,C⟩<;>cases C;exact aa
  .obtain⟨cN,⟨_,g⟩|⟨_,_,_,g⟩⟩:=ab
   .exact⟨ew,x,g5.rfl',g.mono I s⟩
   .exact⟨ew,x.pp ⟨j,w.n.dl.eJ,w.n.dx,.c_ P⟩,⟨rfl,rfl⟩,g.mono I s⟩
 .have⟨aI,ag⟩:=h.gd.je hi (P:=P) (by rw[mV];exact ap) N aB (q.lt.hops).1 aa;rw[mV]at aI ag;rw[Hs]at ag;have eT:=ok.tag;have ao:U fW (w.n.eA+1)=w.n.eA+1:=by rw[Ce];have:=eT.1;omega
  rw[show CG P.c w.n.eA 95=B ((jG (m7 P.c).eH).map (gB (m7 P.c) w.n.eA),0)from ar3 K w.n.eA];simp only[cI,(J:((0:Int) !=0)=Z),dm,ao];have aO:=K.sV;have aG:gb n (S+((0:Nat):Int)) j Q ak aq (zw w (0,w.n.dl,w.n.dx,w.n.eA+1,w.n.ex,w.eL)) (x.je j w.n.eA P w.n.dl.eJ):=⟨by simpa[zw]using ag,h.fl,h.ev⟩;refine de.bind (u:=λa=>match a with
   |.inl l=>F l.2.2.1<=F w.eL+20/\∃ai,g5 x ai/\gb n (S+20) j Q ak aq (zw w (0,l.1,l.2.1,w.n.eA+1,l.2.2.2,l.2.2.1)) ai
   |.inr v=>F v.2.2.2.2.2<=F w.eL+20/\∃ai,g5 x ai/\gb n (S+20) j Q ak aq (zw w v) ai) (hk (λa=>∃g:Nat,a.1=(g:Int)/\g<=(m7 P.c).eH/\F a.2.2.2.1<=F w.eL+g/\a.2.1.eJ=w.n.dl.eJ+g/\∃ai,g5 x ai/\gb n (S+g) j Q ak aq (zw w (0,a.2.1,a.2.2.1,w.n.eA+1,a.2.2.2.2,a.2.2.2.1)) ai/\ai.ht j w.n.eA=B (P,w.n.dl.eJ)/\ai.fr j=Z/\qg ai P/\(g=0->ai.f6 P.o P.nu=.lw/\P.p.e3+ai.Y P.o P.nu<=256)) (λa=>(((m7 P.c).eH:Int)-a.1).toNat) (λa d=>?_) ⟨0,rfl,I,ew,dh,x.je j w.n.eA P w.n.dl.eJ,⟨rfl,rfl⟩,aG,?_,dE rfl,aa,λ_=>⟨N,?_⟩⟩) λa d=>?_
  .have⟨aU,ae,C,ad,aX⟩:=a;have⟨g,ar,af,au,ah,aS,u,A,aj,al,am,av⟩:=d;simp only at ar au ah A;subst ar;unfold Wd Jm;simp only[fT,tl];by_cases aE:g<(m7 P.c).eH
   .have fC:di ((jG (m7 P.c).eH).map<|gB (m7 P.c) w.n.eA) (g:Int)=B (gB (m7 P.c) w.n.eA g):=by rw[et EZ];simp
    rw[dO,dz aE,c6,fC,cI,ak2 K eT.1 I g aE];simp only[cI,(J:((0:Int) !=0)=Z),dm,ao];rw[e7 I];have aH:Fc n j w.now ae aS ae.eJ (.mL P g w.n.eA):=by
     refine⟨⟨q,an,aE,eT.1,I⟩,nofun,nofun,nofun,λk aT tag C=>?_,λk C=>?_,λk C=>?_⟩
     .cases C;exact⟨by rw[aj,ah,(dd:w.n.dl.eJ+(g:Int)-(g:Int)=w.n.dl.eJ)],al⟩
     .rcases C with C|⟨_,_,C⟩<;>cases C;exact am
     .cases g with
      |zero=>cases C;exact av rfl
      |succ g=>cases C
    refine(afs A hi I (by show F ad<30000;omega) (o:=.mL P g w.n.eA) ay (by show B P.r=_;rw[dK]) rfl nofun aH).bind λv ab=>?_
    obtain⟨m,⟨D,o⟩|⟨D,o,aL,aw⟩⟩:=ab
    .rw[D];refine dg.2<|.inr ⟨_,rfl,?_⟩;have m:F v.2.2.2.2<=F ad+1:=m;exact⟨ew,aS,u,o.mono I s⟩
    .rw[D];have m:F v.2.2.2.2<=F ad+1:=m;have o:v.2.1.eJ=ae.eJ+1:=o;refine dg.2 (.inl ⟨_,rfl,⟨g+1,rfl,I,ew,ew,aS.pp ⟨j,ae.eJ,C,.mL P g w.n.eA⟩,u,?_,aj,al,am,λC=>I⟩,ew⟩);have:=aw;rwa[OD]at this
   .rw[dO,dr aE,dm];exact dg.2<|.inr ⟨_,rfl,ew,aS,u,A.mono I s⟩
  .show(if j=j then(if w.n.eA=w.n.eA then _ else _)else _)=_;rw[dE rfl,dE rfl]
  .show P.p.e3+((if P.o=P.o/\P.nu=P.nu then x.Y P.o P.nu+1 else x.Y P.o P.nu:Nat):Int)<=256;rw[dE ⟨rfl,rfl⟩];omega
  .cases a with
   |inl l=>exact dg.2 d
   |inr v=>exact dg.2 d
def zy(w:fs)(v:eR×Int×Int×(E es)×(E (E Int))×(E gP)):fs:={w with n.dl:=v.1,n.dx:=v.2.1,n.eA:=v.2.2.1,n.ex:=v.2.2.2.1,eL:=v.2.2.2.2.1,im:=v.2.2.2.2.2}
def aqr{j l:Nat}(hi:j<4)(a:l<4):wA [fk j] (fk l)=B (decide (l=j)):=by refine wW (z:=λj l=>wA [fk j] (fk l)=B (decide (l=j))) (λj hi=>?_) hi a;refine kB (z:=λj=>wA [fk j] (fk 0)=B (decide (0=j))/\wA [fk j] (fk 1)=B (decide (1=j))/\wA [fk j] (fk 2)=B (decide (2=j))/\wA [fk j] (fk 3)=B (decide (3=j))) ?_ ?_ ?_ ?_ hi<;>exact⟨J,J,J,J⟩
def abx{l:Nat}(a:l<4):rm (fk l) 128=B ⟨fk l,128⟩/\rm (fk l) 0=B ⟨jX,0⟩:=kB (z:=λl=>rm (fk l) 128=B ⟨fk l,128⟩/\rm (fk l) 0=B ⟨jX,0⟩) ⟨J,J⟩ ⟨J,J⟩ ⟨J,J⟩ ⟨J,J⟩ a
def amW{K:Int}(ax:fy K)(t:E Int):IR [] K t=B (jX,Z):=by have v:Db []=B T:=J;have s:dq (V4 []) ()=B ():=J;unfold IR Pf;rw[v,cI,c6,dz ax.1,c6,cI,dz ax.2,c6,s];rfl
theorem L7{z:ee}(h:F z.f7<=1000):xZ z=B z:=by unfold xZ nN;rw[qq o1 o1];rfl
def Hv(w:fs)(s:E gP):fs:={w with im:=s}
theorem afr(h:gb n S j Q ak aq w x)(hi:j<n){l:Nat}(a:l<n):Du w (fk l)=B (decide (l=j)):=by have cR:=h.gd.jo;unfold Du;rw[(h.hA hi).ok.g8];exact dS (aqr I I) rfl
theorem afq(h:gb n S j Q ak aq w x){a:gP}(d:a.gi≠1)(Y:F a.lM.f7<=1000/\F a.gA<=1000)(cN:F w.im<10):de (ej 136 w.im (cQ.cL .c_ [a])) λs=>F s=F w.im+1/\gb n S j Q ak aq (Hv w s) x:=by rw[he _ _ I E2,dg];simp only[cQ.cL];refine⟨dh,?_,h.fl,by simp[Hv];omega⟩;have:=h.gd.akF (v:=qV w.now j a) d Y;rw[iu]at this;simp only[Hv,hN,hx,jY];exact this
theorem UB(h:gb n S j Q ak aq w x)(i:l7){z:ee}(Y:F z.f7<=1000)(e:Int)(cN:F w.im<10):de (Ah w i z e) λs=>F s=F w.im+1/\gb n S j Q ak aq (Hv w s) x:=by unfold Ah;rw[L7 Y,cI];exact de.bind (afq h (a:=⟨3,i.oY,i.ga,0,z,[],e⟩) (by decide:(3:Int)≠1) cU cN) λs cN=>dg.2 cN
theorem UC(h:gb n S j Q ak aq w x)(hi:j<n)(o:S+20<=4294836223)(al:F w.eL<=20000)(az:F w.im<=5){k:Int}{y:Nat}{d:Int}{l:Nat}{z:ee}(a:EK n j x k y d l z){b:c0}{A:Bool}(am:A=T->b.ed.fu=128/\b.dU.fu=0/\b.dW=fF l)(ap:l≠j->w.n.dW.gH<=w.now):de (Dw w ⟨k,fF y,d,b⟩ z A) λv=>F v.2.2.2.2.1<=F w.eL+20/\∃ai,g5 x ai/\gb n (S+20) j Q ak aq (zy w v) ai:=by
 have cR:=h.gd.jo;have cK:=a.cK;have aa:=a.aaP;have ay:=h.gd.kV;have aB:=h.gd.kL;have ok:=(h.hA hi).ok;have aA:=a.lt.len;have N:=L7 (z:=z) I;unfold Dw;rw[a.lt.dst,a.lt.kJ,afr h hi aa,cI];refine ep.2 ⟨λC=>?_,λC=>?_⟩
 .have aC:l=j:=f8 C;rw[hl (show¬z.Next=41 by rcases a.lt.next with C|C<;>omega),dm];unfold Pw;rw[N,cI,he _ _ I E2];simp only[cI,cQ.cL];rw[dg];have⟨e,aG,aD,aQ,aH,ag,ah⟩:=a.kI;have:=h.gd.akG (v:=qV w.now j ⟨1,fF y,d,0,z,[],0⟩) aG (by rw[aD,aQ];exact a.f6) (by rw[aD];rfl) (by rw[aQ];rfl) (by rw[aH,aC];rfl) ag ah ⟨by show F z.f7<=_;omega,by simp[qV]⟩;refine⟨ew,{x with f6:=qx x.f6 e.o e.nu .done},⟨rfl,rfl⟩,g4.mono (S:=S) ?_ I o,h.fl,by simp[zy];omega⟩
  .rw[iu]at this;simp only[zy,hN,hx,jY];exact this
 .have aC:l≠j:=of_decide_eq_false C;rw[ok.bind,amW pK];simp only[cI,dm];have q:∀(g:Int×c0×Int) (m:Int) (ae:eR) (t eT:Int) (fr:E (E Int)) (to:c0) (D:E es),F fr<=F w.eL+20->(∃ai,g5 x ai/\gb n (S+20) j Q ak aq (zw w (m,ae,t,eT,D,fr)) ai)->de (Dy w ⟨k,fF y,d,b⟩ z g (m,ae,t,eT,fr,to,D)) λv=>F v.2.2.2.2.1<=F w.eL+20/\∃ai,g5 x ai/\gb n (S+20) j Q ak aq (zy w v) ai:=by
   rintro g m ae t eT fr to D G ⟨ai,dI,P⟩;unfold Dy;simp only;refine ep.2 ⟨λ_=>?_,λ_=>?_⟩
   .refine de.bind (UB P ⟨k,fF y,d,to⟩ I m agV) λs cN=>dg.2 ⟨G,ai,dI,cN.2⟩
   .rw[N,cI];exact de.bind (afq P (a:=⟨2,fF y,d,g.1,z,[],0⟩) (by decide:(2:Int)≠1) ⟨ew,dh⟩ agV) λs cN=>dg.2 ⟨G,ai,dI,cN.2⟩
  have ad:∀p u,(p=T->u=dst l)->de (Dx w z ⟨k,fF y,d,b⟩ (p,u)) λv=>F v.2.2.2.2.1<=F w.eL+20/\∃ai,g5 x ai/\gb n (S+20) j Q ak aq (zy w v) ai:=by
   intro p u an;unfold Dx Jt;rw[a.lt.dst,a.lt.kJ];refine de.bind (aq0 cR hi ok.nv pK (ap aC) cK aa aC p an) λg aj=>?_
   rcases aj with⟨i,K,af⟩|i|i
   .rw[i,beq_self_eq_true,c6,hl K.zd,dm,c6];have⟨r,aw,aE,ax⟩:=K;rw[ax,af];exact de.bind (as7 h hi o al a aC (ap aC) aw) λv ab=>by have:=q g v.1 v.2.1 v.2.2.1 v.2.2.2.1 v.2.2.2.2.2 (dst l) v.2.2.2.2.1 ab.1 ab.2;exact this
   .rw[i];exact q g 9 w.n.dl w.n.dx w.n.eA w.eL b w.n.ex I ⟨x,g5.rfl',h.mono I o⟩
   .rw[i];exact q g 15 w.n.dl w.n.dx w.n.eA w.eL b w.n.ex I ⟨x,g5.rfl',h.mono I o⟩
  refine ep.2 ⟨λau=>?_,λ_=>ad Z _ nofun⟩;have⟨ao,ar,av⟩:=am au;rw[ao,ar,(abx (l:=l) I).1,(abx (l:=y) I).2];simp only[cI,av];exact ad T _ λ_=>rfl
theorem afp(h:gb n S j Q ak aq w x)(hi:j<n)(d:S+20<=4294836223)(k:F w.eL<=20000)(q:F w.im<=4){P:oK}(a:zO n P)(ay:P.r=j)(Y:x.f6 P.o P.nu=.lw)(aj:qg x P)(t:P.p.e3+x.Y P.o P.nu<=256):de (Ag w (fN P.s) P.c) λv=>F v.2.2.2.2.1<=F w.eL+20/\∃ai,g5 x ai/\gb n (S+20) j Q ak aq (zy w v) ai:=by
 have cR:=h.gd.jo;have cK:=a.o;have g:=a.b;have p:=h.gd.kV;have z:=h.gd.kL;have y:=a.lt.len;have u:=a.lt.hops;have ok:=(h.hA hi).ok;have cN:=a.len;have b:∀s,F s<=10->gb n S j Q ak aq (Hv w s) x->de (B (w.n.dl,w.n.dx,w.n.eA,w.n.ex,w.eL,s)) λv=>F v.2.2.2.2.1<=F w.eL+20/\∃ai,g5 x ai/\gb n (S+20) j Q ak aq (zy w v) ai:=λs _ cN=>dg.2 ⟨ew,x,g5.rfl',cN.mono I d⟩
 unfold Ag;rw[show Dk P.c=_ from asI a.cr a.nu I I a.w I];simp only[cI,c6];refine ep.2 ⟨λ_=>b _ h.ev h,λ_=>ep.2 ⟨λ_=>b _ h.ev h,λ_=>?_⟩⟩;rw[dr (show¬(128:Int)>128 by decide),dr (show¬(0:Int)>128 by decide),hl<|y1 P.b,dm,dm,dm];unfold nO;rw[ok.g8];simp only[cI];have dG:zT P.w (fN P.s) ⟨3,0,(g8 j).h1⟩ (g8 j).m0 w.now=B (P.p,0):=by have:=a.akv w.now pK;rw[ay]at this;exact this
 rw[dG];simp only[cI,(J:((0:Int) !=0)=Z),dm];rw[a.lt.dst,afr h hi g,cI];refine ep.2 ⟨λC=>?_,λC=>?_⟩
 .have aC:P.b=j:=f8 C;unfold Dt;have i:EK n j x P.cr P.o P.nu P.b P.p:=⟨cK,g,a.cr,a.nu,a.lt,Y,aj,λC=>absurd aC C⟩;exact de.bind (UC h hi d k I i (b:=⟨⟨jX,128⟩,⟨jX,0⟩,fF P.b⟩) (A:=T) (λ_=>⟨rfl,rfl,rfl⟩) λC=>absurd aC C) λv ab=>dg.2 ab
 .have aC:P.b≠j:=of_decide_eq_false C;refine ep.2 ⟨λ_=>de.bind (UB h _ I 2 I) λs cN=>b s I cN.2,λau=>ep.2 ⟨λ_=>de.bind (UB h _ I 11 I) λs cN=>b s I cN.2,λaL=>?_⟩⟩;have au:2<=P.p.e3:=agW;have aL:w.n.dW.gH<=w.now:=by have:=of_decide_eq_false aL;omega
  rw[lZ ⟨I,I⟩];unfold Dt;have m:lI P.o P.b {P.p with e3:=P.p.e3-1}:={a.lt with hops:=⟨ew,ew⟩};have i:EK n j x P.cr P.o P.nu P.b {P.p with e3:=P.p.e3-1}:=⟨cK,g,a.cr,a.nu,m,Y,by have⟨e,aG,aD,aQ,aH,l,o⟩:=aj;exact⟨e,aG,aD,aQ,aH,by rw[l],ew⟩,λ_=>ew⟩
  exact de.bind (UC h hi d k I i (b:=⟨⟨jX,128⟩,⟨jX,0⟩,fF P.b⟩) (A:=T) (λ_=>⟨rfl,rfl,rfl⟩) λ_=>aL) λv ab=>dg.2 ab
def amC(c:E Int):(m7 c).c=c:=rfl
def N4(w:fs)(s:E eG):fs:={w with n.g1:=s}
def N5(w:fs)(v:eR×Int×Int×(E eG)×(E es)×(E (E Int))×(E gP)):fs:={w with n.dl:=v.1,n.dx:=v.2.1,n.eA:=v.2.2.1,n.g1:=v.2.2.2.1,n.ex:=v.2.2.2.2.1,eL:=v.2.2.2.2.2.1,im:=v.2.2.2.2.2.2}
def UD(h:gb n S j Q ak aq w x)(hi:j<n){L:E gr}(a:tv L)(b:∀o∈L,o.u<=w.now+12/\(w.now<o.u->∃P c,uC x j w.n.dl o P c)):gb n S j Q ak aq (N4 w (L.map (gr.b j))) (x.r2 j L):=by have:=h.gd.arT hi a (by rw[mV];exact b);rw[Hs,mV]at this;exact⟨this,h.fl,h.ev⟩
theorem as8(h:gb n S j Q ak aq w x)(hi:j<n)(aw:S+20<=4294836223)(a8:F w.eL<=20000)(a7:F w.im<=4){P:oK}(aJ:zO n P)(ay:P.r=j){tag:Int}{g:Nat}{c:Int}(ax:0<=tag/\tag<=65535)(af:g<(m7 P.c).eH)(aj:qg x P)(t:x.ht P.s tag=B (P,c))(aM:mH x j w.n.dl P.s (c+g))(a9:x.fr P.s=T->w.now<=x.R P.s+3)(a_:∀o∈x.kC j,w.now<o.u->o.s=P.s->o.tag=tag->g∉o.K)(Y:g=0->x.f6 P.o P.nu=.lw/\P.p.e3+x.Y P.o P.nu<=256){f:hd}(aZ:f.f7=m4 (m7 P.c) tag g)(a0:f.dU=fN P.s)(a1:f.ed=fN j):de (Jn w f) λv=>F v.2.2.2.2.2.1<=F w.eL+20/\∃ai,g5 x ai/\gb n (S+20) j Q ak aq (N5 w v) ai:=by
 have cR:=h.gd.jo;have bn:=h.gd.kL;have bl:=h.gd.kV;have aW:=h.hA hi;have⟨bj,bk,aB⟩:=yY cR aJ;have bd:fy w.now:=pK;have bo:rQ w.now=w.now+12:=by unfold rQ;omega
 unfold Jn;rw[aZ,ak1 aB ax.1 ax.2 g af,a0,a1];simp only[cI,(J:((0:Int) !=0)=Z),dm];rw[aW.lP];have key:∀o∈pW (x.kC j) w.now,lW o ⟨P.s,tag,m7 P.c,[],0⟩->o.d=m7 P.c/\g∉o.K:=λo ad C=>by have⟨aa,ae⟩:=oE.1 ad;have ae:=f8 ae;have⟨aC,au,_⟩:=C;have⟨z,A,l⟩:=(aW.kU o aa).2 ae;have:=l.p4;rw[show o.s=P.s from aC,show o.tag=tag from au,t]at this;cases this;exact⟨l.d,a_ o aa ae aC au⟩
 have ag:∀{ai:fG},ss n S w.now ai j w.n->ai.kC=x.kC->∀o∈pW (x.kC j) w.now,o.u<=w.now+12/\∃P c,uC ai j w.n.dl o P c:=λ{ai} a5 e o ad=>by have⟨aa,ae⟩:=oE.1 ad;have:=a5.kU o cU;exact cU
 refine(ai7 aW.qQ bd aB af key).bind λv ab=>?_
 rcases ab with ab|⟨av,i,aO,ar⟩
 .rw[ab];exact dg.2 ⟨ew,x,g5.rfl',by
   have:N5 w (w.n.dl,w.n.dx,w.n.eA,(x.kC j).map<|gr.b j,w.n.ex,w.eL,w.im)=w:=by rw[<-aW.lP];rfl
   rw[this];exact h.mono I aw⟩
 rw[av];simp only[(J:((0:Int) !=0)=Z),dm];have aH:∀{ai:fG},g5 x ai->gb n S j Q ak aq (N4 w<|i.map<|gr.b j) ai->ai.f6 P.o P.nu=.lw->qg ai P->P.p.e3+ai.Y P.o P.nu<=256->v.2.1=P.c->de (bif decide ((F v.2.1:Int)>0)then(Ag {w with n.g1:=v.1} (fN P.s) v.2.1).bind λp=>B (p.1,p.2.1,p.2.2.1,v.1,p.2.2.2.1,p.2.2.2.2.1,p.2.2.2.2.2)else B (w.n.dl,w.n.dx,w.n.eA,v.1,w.n.ex,w.eL,w.im)) λv=>F v.2.2.2.2.2.1<=F w.eL+20/\∃ai,g5 x ai/\gb n (S+20) j Q ak aq (N5 w v) ai:=λ{ai} ao aS aU aV aX aY=>by rw[aY,dz I,c6,aO];exact de.bind (afp aS hi aw a8 a7 aJ ay aU aV aX) λp ⟨a2,aN,a3,a4⟩=>dg.2 ⟨a2,aN,ao.trans a3,a4⟩
 rcases ar.Sn with⟨am,a,aA,m,aR,bf,bg,d⟩|⟨am,aA,m⟩
 .rw[am];refine dg.2 ⟨ew,?_⟩;have aP:∀{ai:fG},g5 x ai->gb n S j Q ak aq w ai->ai.kC=x.kC->ai.ht=x.ht->ai.fr=x.fr->ai.R=x.R->ai.eB=x.eB->qg ai P->(0∈a.K->ai.f6 P.o P.nu=.lP j P.s tag/\P.p.e3+ai.Y P.o P.nu<=256)->∃aI,g5 x aI/\gb n (S+20) j Q ak aq (N5 w (w.n.dl,w.n.dx,w.n.eA,v.1,w.n.ex,w.eL,w.im)) aI:=λ{ai} ao aF aC au aL aT aK a6 bb=>by
   refine⟨ai.r2 j i,ao,?_⟩;rw[aO];refine(UD aF hi ar.ok λo ad=>?_).mono I aw;rcases bg o ad with rfl|⟨aa,_⟩
   .have bc:∀q c,mH x j w.n.dl q c->mH ai j w.n.dl q c:=λq c C=>by
     rcases C with C|C
     .exact .inl C
     .exact .inr ⟨C.1,by rw[aK];exact C.2⟩
    refine⟨?_,λ_=>⟨P,c,?_,a6,bf,m.symm,ay,λba u=>?_,λC=>?_,λC=>by rw[m,aR];exact bb C⟩⟩
    .rcases d with⟨d,_⟩|⟨an,k,b,s,ah⟩
     .omega
     .rw[s];exact(ag aW rfl an k).1
    .rw[au,m,aR];exact t
    .rw[m];refine bc _ _ ?_;rcases d with⟨_,d⟩|⟨an,k,b,s,ah⟩
     .rw[d]at u;rw[gO.1 u];exact aM
     .rw[ah]at u;rcases Ge.1 u with u|rfl
      .have⟨z,A,l⟩:=(ag aW rfl an k).2;have:=l.p4;rw[show an.s=P.s from b.1,show an.tag=tag from b.2.1,t]at this;cases this;have:=l.pq ba u;rwa[show an.s=P.s from b.1]at this
      .exact aM
    .rw[aL,m]at C;rw[aT,m];rcases d with⟨d,_⟩|⟨an,k,b,s,ah⟩
     .have:=a9 C;omega
     .have⟨z,A,l⟩:=(ag aW rfl an k).2;have:=l.fr (by rw[show an.s=P.s from b.1];exact C);rw[s,<-show an.s=P.s from b.1];exact this
   .have:=ag (aF.hA hi) aC o aa;exact⟨this.1,λ_=>this.2⟩
  by_cases D:g=0
  .have⟨y,K⟩:=Y D;refine aP (ai:={x with f6:=qx x.f6 P.o P.nu<|.lP j P.s tag}) ⟨rfl,rfl⟩ ⟨h.gd.lw _ y,h.fl,h.ev⟩ rfl rfl rfl rfl rfl aj λ_=>⟨Cc,K⟩
  .refine aP g5.rfl' h rfl rfl rfl rfl rfl aj λC=>?_
   rcases d with⟨_,d⟩|⟨an,k,b,s,ah⟩
   .rw[d]at C;exact absurd (gO.1 C).symm D
   .rw[ah]at C;rcases Ge.1 C with C|C
    .have⟨z,A,l⟩:=(ag aW rfl an k).2;have e:=l.p4;have N:=l.f6 C;rw[show an.s=P.s from b.1,show an.tag=tag from b.2.1]at e N;rw[t]at e;cases e;exact N
    .exact absurd C.symm D
 .have al:gb n S j Q ak aq (N4 w<|i.map<|gr.b j) (x.r2 j i):=UD h hi ar.ok λo ad=>by have:=ag aW rfl o (aA o ad).1;exact cU
  rcases m with D|⟨an,k,b,s⟩
  .have⟨y,K⟩:=Y D;exact aH (ai:=x.r2 j i) ⟨rfl,rfl⟩ al y aj K am
  .have⟨z,A,l⟩:=(ag aW rfl an k).2;have e:=l.p4;have⟨y,K⟩:=l.f6 s;rw[show an.s=P.s from b.1,show an.tag=tag from b.2.1]at e y;rw[t]at e;cases e;refine aH (ai:={x.r2 j i with f6:=qx x.f6 P.o P.nu .lw}) ⟨rfl,rfl⟩ ⟨al.gd.aeA .lw cU cU λbp bm o ad bq z A ap bh aE=>?_,al.fl,al.ev⟩ Cc aj K am;have N:=(ap.f6 bh).1;rw[aE.1,aE.2,(J:(x.r2 j i).f6 P.o P.nu=x.f6 P.o P.nu),y]at N;injection N with aG aD aQ
   subst aG;have ad:o∈i:=by simpa using ad
   have az:=ap.p4;rw[<-aD,<-aQ]at az;rw[(J:(x.r2 j i).ht P.s tag=x.ht P.s tag),t]at az;cases az;exact(aA o ad).2 ⟨aD.symm,aQ.symm,by rw[ap.d]⟩
def Bp{ag:Type}(s:E ag){i:Int×E ag->X ((Int×E ag)⊕E ag)}(h:∀g (af:g<F s),i ((g:Int),s.take g)=B (.inl (((g+1:Nat):Int),s.take g++[s[g]])))(am:i ((F s:Int),s)=B (.inr s)):dq i (0,[])=B s:=ow (λg=>((g:Int),s.take g)) (F s) (λg af=>by rw[h g af,na af]) agX
def R6{ag:Type}(s:E ag){i:E ag×Int->X ((E ag×Int)⊕E ag)}(h:∀g (af:g<F s),i (s.take g,(g:Int))=B (.inl (s.take g++[s[g]],((g+1:Nat):Int))))(am:i (s,(F s:Int))=B (.inr s)):dq i ([],0)=B s:=ow (λg=>(s.take g,(g:Int))) (F s) (λg af=>by rw[h g af,na af]) agX
theorem SV(t n:Nat)(a:1<=t/\t<=1000)(h:n<=100000):h4 t 0 (n:Int)=B 0:=by unfold h4;have:t*n<=1000*100000:=Nat.mul_le_mul a.2 h;rw[dE dd];rfl
theorem sM{s:E Int}(h:F s<=100000):nN s=B s/\Cy s=B s:=by unfold nN Cy;exact⟨qq o1 o1,qq o1 o1⟩
theorem ak0{s:E fq}(h:F s<=1000)(aB:∀f∈s,F f.gA<=1000):Jh s=B s:=by
 unfold Jh;rw[SV 48 _ I I,cI];refine dS (R6 s (λg af=>?_) ?_) rfl
 .unfold Pr Pm;simp only;rw[dO,dz af,c6,et af,cI,(sM agY).1];simp only[cI,cQ.cL];rw[he _ _ I wG,cI,e7 I]
 .unfold Pr;simp only;rw[dO,dr I,dm]
theorem aj5{s:E eG}(h:F s<=1000)(a:∀l∈s,F l.j5<=1000/\∀f∈l.j5,F f.gA<=1000):Jf s=B s/\Jg s=B s:=by
 have e:∀g (af:g<F s),Do s[g]=B s[g]:=λg af=>by have⟨t,l⟩:=a _ (fi af);unfold Do;rw[ak0 t l];rfl
 unfold Jf Jg;rw[SV 96 _ I I];simp only[cI];constructor
 .refine dS (R6 s (λg af=>?_) ?_) rfl
  .unfold Po;simp only;rw[dO,dz af,c6,et af,cI,e g af];simp only[cI,cQ.cL];rw[he _ _ I wG,cI,e7 I]
  .unfold Po;simp only;rw[dO,dr I,dm]
 .refine dS (Bp s (λg af=>?_) ?_) rfl
  .unfold Pn;simp only;rw[dO,dz af,c6,et af,cI,e g af];simp only[cI,cQ.cL,iV];rw[he _ _ I wG,cI,e7 I]
  .unfold Pn;simp only;rw[dO,dr I,dm]
theorem ata{s:E es}(h:F s<=1000)(aB:∀w∈s,F w.Bytes<=1000):Ji s=B s/\Jj s=B s:=by
 have e:∀g (af:g<F s),Dp s[g]=B s[g]:=λg af=>by unfold Dp;rw[(sM agY).1];rfl
 unfold Ji Jj;rw[SV 56 _ I I];simp only[cI];constructor
 .refine dS (R6 s (λg af=>?_) ?_) rfl
  .unfold Pv;simp only;rw[dO,dz af,c6,et af,cI,e g af];simp only[cI,cQ.cL];rw[he _ _ I wG,cI,e7 I]
  .unfold Pv;simp only;rw[dO,dr I,dm]
 .refine dS (Bp s (λg af=>?_) ?_) rfl
  .unfold Pu;simp only;rw[dO,dz af,c6,et af,cI,e g af];simp only[cI,cQ.cL,iV];rw[he _ _ I wG,cI,e7 I]
  .unfold Pu;simp only;rw[dO,dr I,dm]
def arN:Ps []=B []/\Pt []=B []/\Pp []=B []/\Pq []=B []:=⟨J,J,J,J⟩
def L5{j:Nat}(hi:j<4):Dn (g8 j)=B (g8 j)/\Jc (g8 j)=B (g8 j)/\Ab (g8 j)=B T/\KJ [iN j] [iN j]=B T:=kB (z:=λj=>Dn (g8 j)=B (g8 j)/\Jc (g8 j)=B (g8 j)/\Ab (g8 j)=B T/\KJ [iN j] [iN j]=B T) ⟨J,J,J,J⟩ ⟨J,J,J,J⟩ ⟨J,J,J,J⟩ ⟨J,J,J,J⟩ hi
section
variable(cR:n<=4)(hi:j<n)
include cR hi
theorem arw{r:fH}(h:m2 n j r):Jd r=B r/\Je r=B r:=by
 have G:=h.mq.len;have d:=h.kJ.len;have g:=h.rZ.len cR;have i:=h.kF.len hi;have k:=h.jp.len;have m:=h.tb.len;have dI:F r.gu=1:=QC;have c:∀{ag:Type} {l:Nat} {s:E ag},l<=1000->F s<=1000->((ej l ([]:E ag) s).bind λb=>B b)=B s:=λ{ag l s} a cN=>by rw[he _ _ a ef];rfl
 unfold Jd Je sq P2 yl yk yh yi tD KF yg tE wz P6 yj P3;simp only[cQ.cL,pt];rw[c (s:=r.gu) I I,c (s:=r.eg) I I,c (s:=r.gT) I I,c (s:=r.gX) I I,c (s:=r.hh) I I,c (s:=r.hj) I I,c (s:=r.gI.fJ) I I];exact cU
omit cR hi in
theorem aj6{A:d3}(h:uZ n j A):F A.g1<=1000/\∀l∈A.g1,F l.j5<=1000/\∀f∈l.j5,F f.gA<=1000:=by have⟨L,e,i⟩:=h.lP;rw[e];refine⟨by have:=i.len;simp;omega,λl k=>?_⟩;obtain⟨a,d,rfl⟩:=hT.1 k;have ok:=i.all a d;have G:=ok.K.len;have o:=ok.d.sV;refine⟨by show F (a.K.map _)<=_;rw[fT];omega,λf m=>?_⟩;obtain⟨g,af,rfl⟩:=hT.1 m;have b:=ok.K.lt g af;show F (kY a.d g)<=_;rw[sQ ok.d g b];have:=(qs ok.d g b).2.1;omega
theorem GG{A:d3}(h:uZ n j A):Dm A=B A/\x0 A=B A:=by
 obtain⟨k,m,_⟩:=L5 (dd:j<4);obtain⟨q,t⟩:=arw cR hi h.nv;obtain⟨b,d⟩:=aj6 h;obtain⟨g,i⟩:=aj5 b d;obtain⟨C,D⟩:=ata (s:=A.ex) (by have:=h.tg;omega) λw o=>by have:=(h.oB w o).2.2.1;omega
 obtain⟨u,x,y,z⟩:=arN;have Y:=h.m5.len;have c:∀{ag:Type} {l:Nat} {s:E ag},l<=1000->F s<=1000->((ej l ([]:E ag) s).bind λp=>B p)=B s:=λ{ag l s} a cN=>by rw[he _ _ a ef];rfl
 have af:F A.dl.jj<=1000:=by rw[h.m5.rP];decide
 have a:F A.oJ<=1000:=by rw[h.bind];decide
 have aj:F A.j9.gA<=1000:=by rw[h.set];decide
 unfold Dm x0 P7 P8 P9 P_ P4 P5;rw[h.g8,k,m,q,t,g,i,C,D,h.zr,h.xg,u,x,y,z,(sM I).1,(sM I).2];simp only[cQ.cL,pt,cI];rw[c (s:=A.dl.jj) I I,c (s:=A.dl.d8) I I,c (s:=A.oJ) I I];have aG:=h.g8;have aD:=h.zr;have aQ:=h.xg;obtain⟨K,ae,ah,ai,ak,al,am,an,ao,N,P,Q,S,aa,ab,ad⟩:=A;simp only at aG aD aQ⊢;rw[aG,aD,aQ];exact cU
theorem BK{A:d3}(h:uZ n j A):uQ A=B T:=by
 have⟨_,_,k,l⟩:=L5 (dd:j<4);have b:∀{a:Int},fy a->sp a=B T:=λ{a} h=>agZ
 have D:=h.FN;have K:=h.tg;have⟨L,e,p⟩:=h.lP;have q:dq (Ja A) 0=B ():=by
  refine nr (Q:=F A.ex) (λg af=>?_) ?_
  .have⟨⟨m,_,d⟩,_,y,z,C,i⟩:=h.oB _ (fi af);unfold Ja;rw[dO,dz af,c6,et af,cI,d,hl (y1 m),dr I,dr I,dr I,b i,e7 I];rfl
  .unfold Ja;rw[dO,dr I,dm]
 have s:z6 []=B T:=J;have t:C3 zt=B T:=J;have u:Pd []=B T:=J;have x:Db []=B T:=J;have o:h9.fV ⟨1,n2⟩ ⟨1,n2⟩=T:=J;unfold uQ;rw[h.g8,k,F4 cR h.m5,h.m5.rP,b h.FW,b h.Hj,ND cR hi h.nv,h.nv.self,h.nv.iN,e,RH p,q,h.zr,s,h.set,t,h.xg,u,h.bind,x];simp only[cI,c6,lG,(J:(((1:Nat):Int) !=1)=Z),dm,(J:di [(⟨1,n2⟩:h9)] 0=B ⟨1,n2⟩),(J:(g8 j).hJ=n2),o];rw[dr I,dr I,show((fF j !=(g8 j).h1))=Z by simp[g8],(J:(g8 j).gu=[iN j]),l,dr I];rfl
end
def Cd(h:gb n S j Q ak aq w x)(hi:j<n){A:d3}(ok:uZ n j A)(ar:A.dl=w.n.dl)(ap:w.n.dW.gH<=A.dW.gH)(aA:A.ga=w.n.ga)(ax:A.eA=w.n.eA)(b:∀an∈A.ex,LE x j an)(a:A.g1=w.n.g1):gb n S j Q ak aq {w with n:=A} x:=by have:=h.gd.put hi (A:=A) ((h.hA hi).aeH ok ar ap aA ax b a) (by rw[mV];exact ar) (by rw[mV];exact aA);rw[Hs]at this;exact⟨this,h.fl,h.ev⟩
def atd(w:fs)(v:eR×Int×fH×(E (E Int))):fs:={w with n.dl:=v.1,n.dx:=v.2.1,n.dW:=v.2.2.1,eL:=v.2.2.2}
theorem as9(h:gb n S j Q ak aq w x)(hi:j<n)(t:S+10100<=4294836223)(u:F w.eL<=10000){f:hd}{a:Int}{q:Nat}(aj:q<n)(y:q≠j)(o:f.dU=fN q)(ax:0<=a/\a<1099511627776)(C:a<=w.now)(P:w.now<=a+3)(Y:AS n a f.f7):de (Jo w f) λv=>F v.2.2.2<=F w.eL+10100/\∃ai,g5 x ai/\gb n (S+10100) j Q ak aq (atd w v) ai:=by
 have cR:=h.gd.jo;have K:=h.gd.kL;have ok:=(h.hA hi).ok;have⟨s,aG,b,z,A,N⟩:=Y;unfold Jo;rw[aG,akw cR ax b z A (adL cR b),o];simp only[cI,(J:((0:Int) !=0)=Z),dm];refine(aq2 cR hi ok.nv (K:=w.now) (at_:=a) pK pK C I (fr:=(fN q).h1) ⟨q,aj,y,rfl⟩ (abw b) cU).bind λv ab=>?_
 have⟨d,g,D,i,k⟩:=ab;rw[d];simp only[(J:((0:Int) !=0)=Z),dm];have p:=Cd h hi (A:={w.n with dW:=v.1}) {ok with nv:=g} rfl cU rfl rfl (h.hA hi).oA rfl;exact de.bind (aft p hi i k t u) λaa ⟨l,ai,db,m⟩=>dg.2 ⟨l,ai,db.y9,m⟩
def afC(w:fs)(v:eR×Int×Int×fH×(E eG)×(E es)×(E (E Int))×(E gP)):fs:={w with n.dl:=v.1,n.dx:=v.2.1,n.eA:=v.2.2.1,n.dW:=v.2.2.2.1,n.g1:=v.2.2.2.2.1,n.ex:=v.2.2.2.2.2.1,eL:=v.2.2.2.2.2.2.1,im:=v.2.2.2.2.2.2.2}
structure WT(n j:Nat)(K:Int)(ae:eR)(x:fG)(a:nD):Prop where
 h:x.H a
 k:a.y.k=Z
 ox:a.s≠j
 d:∀m,a.y.d=B m->m=j
 TY:∀b l d,a.y=.nI b l d->b<=K/\K<=b+3
 pq:mH x j ae a.s a.c
 rM:EI x a
 ak3:∀P k tag,a.y=.mL P k tag->x.fr a.s=T->K<=x.R a.s+3
 amV:∀P k tag,a.y=.mL P k tag->∀o∈x.kC j,K<o.u->o.s=P.s->o.tag=tag->k∉o.K
 jV:∀P,a.y.jV=B P->x.f6 P.o P.nu=.lw/\P.p.e3+x.Y P.o P.nu<=256
theorem als{i:mA}{tag:Int}{g:Nat}(h:F i.c<=1300):∃a s,m4 i tag g=a::s/\192<=a/\a<=255:=by
 have e:∀A:Int,49152<=A/\A<65536->∃a s,d4 A 2=a::s/\192<=a/\a<=255:=λA b=>by exact⟨A/2^(8*(1-0))%256,[A/2^(8*(1-1))%256],rfl,by simp only[Nat.reduceSub,Nat.reduceMul];omega,I⟩
 have⟨a,s,aG,aD⟩:=e (mark g+(F i.c:Int)) (by unfold mark;split<;>omega);exact⟨a,s++(d4 tag 2++(sY g++kY i g)),by unfold m4;rw[aG];rfl,aD⟩
theorem as6(h:gb n S j Q ak aq w x)(hi:j<n)(N:S+10200<=4294836223)(aO:F w.eL<=5)(al:F w.im<=4){a:nD}(d:WT n j w.now w.n.dl x a){ar:E Int}:de (Af w (jg a.y.k a.q a.y.d a.s a.c a.y.p ar)) λv=>F v.2.2.2.2.2.2.1<=F w.eL+10200/\∃ai,g5 x ai/\gb n (S+10200) j Q ak aq (afC w v) ai:=by
 have cR:=h.gd.jo;have ok:=(h.hA hi).ok;have aN:=h.gd.kV;have⟨⟨ae,aR,av,b⟩,_⟩:=h.gd.h.ok a d.h;have qj:=λ(q:Nat) (aj:q<n) (f:hd) (o:f.dU=fN q) (ah:iK f.eJ)=>afn h hi I I aj o ah
 unfold Af nO;rw[ok.g8];simp only[jg];cases e:a.y with
 |nY v=>have:=d.k;rw[e]at this;cases this
 |po v r=>have:=d.k;rw[e]at this;cases this
 |qj v r=>have:=d.k;rw[e]at this;cases this
 |nI af l i=>
  rw[e]at b;have⟨aI,aJ⟩:=d.TY af l i e;have⟨s,aG,_⟩:=b.2.1;have cN:F l=9+F (iL M s):=by rw[aG];exact TG _ _
  simp only[j6.p];rw[hl I,dm,show di l 0=B 42 by rw[aG];rfl,cI,cI];have am:de (uS 42 w ⟨q2 (j6.nI af l i).k,Z,Z,T,a.q,1,om (j6.nI af l i).d,fN a.s,a.c,1,l,ar⟩ (w.n.dl,w.n.dx,w.eL)) λv=>F v.2.2.2.2.2.2.1<=F w.eL+10200/\∃ai,g5 x ai/\gb n (S+10200) j Q ak aq (afC w v) ai:=by
   unfold uS;simp only[(J:decide ((42:Int)>=192)=Z),(J:((42:Int)==48)=Z),dm,beq_self_eq_true,c6];refine de.bind (as9 h hi I I ae d.ox rfl b.1 aI aJ b.2.1) λaQ aB=>dg.2 ?_
   have⟨ag,ai,db,D⟩:=aB;exact⟨ew,ai,db,D.mono I N⟩
  refine ep.2 ⟨λ_=>?_,λ_=>am⟩;simp only[(J:((42:Int)==48)=Z),(J:decide ((42:Int)>=192)=Z),dm];exact am
 |c_ P=>
  rw[e]at b;have⟨k,t,an⟩:=b;have ay:P.r=j:=d.d P.r E1;have⟨ag,D,ax⟩:=yY cR k;have⟨aF,aH⟩:=d.jV P E1;simp only[j6.p,j6.d,ay,om];rw[hl I,dm,(J:di P.c 0=B 48),cI,cI];simp only[show fj.fV (fN j) ⟨3,0,(g8 j).h1⟩=T from Fz _,c6,beq_self_eq_true];refine de.bind (qj a.s ae _ rfl av) λp K=>?_
  have⟨aw,ao,aS,u,y⟩:=K;unfold uS;simp only[(J:decide ((48:Int)>=192)=Z),dm,beq_self_eq_true,c6];have ab:=h.gd.h.kI a d.h P<|.inl e;obtain⟨H,rfl,_⟩:=u;have:=afp y hi I ag0 al k ay aF ab aH;rw[t]at this;refine de.bind this λaL aA=>dg.2 ?_
  have⟨m,ai,z,A⟩:=aA;have m:F aL.2.2.2.2.1<=F p.2.2+20:=m;exact⟨ew,ai,z,A.mono I N⟩
 |mL P g tag=>
  rw[e]at b;have⟨k,t,an,aD,aE⟩:=b;have ay:P.r=j:=d.d P.r E1;have⟨ag,D,ax⟩:=yY cR k;have ad:=k.len;have⟨aa,aP,o,ah,aM⟩:=als (i:=m7 P.c) (tag:=tag) (g:=g) (by rw[amC];omega);simp only[j6.p,j6.d,ay,om];rw[hl (by rw[o];simp only[l6];omega),dm,show di (m4 (m7 P.c) tag g) 0=B aa by rw[o];rfl,cI,cI];simp only[show fj.fV (fN j) ⟨3,0,(g8 j).h1⟩=T from Fz _,c6];rw[hl I,dm,dz (dd:aa>=192),c6];refine de.bind (qj a.s ae _ rfl av) λp K=>?_
  have⟨aw,ao,aS,u,y⟩:=K;unfold uS;rw[dz (dd:aa>=192),c6];have ab:=h.gd.h.kI a d.h P<|.inr ⟨g,tag,e⟩;have au:=d.rM P g tag e;have fr:=d.ak3 P g tag e;have aC:=d.amV P g tag e;have ap:=d.pq;have dM:g=0->x.f6 P.o P.nu=.lw/\P.p.e3+x.Y P.o P.nu<=256:=λC=>d.jV P (by rw[e,C];rfl)
  rw[<-t]at au fr ap;obtain⟨H,rfl,_⟩:=u;refine de.bind (as8 y hi I ag0 al k ay (c:=a.c-g) ⟨aD,aE⟩ an ab au ((mH.zo (x:={x with H:=H}) ao).2 (by rw[(dd:a.c-(g:Int)+g=a.c)];exact ap)) fr aC dM rfl (by rw[t]) rfl) λaK az=>dg.2 ?_
  have⟨m,ai,z,A⟩:=az;have m:F aK.2.2.2.2.2.1<=F p.2.2+20:=m;exact⟨ew,ai,z,A.mono I N⟩
theorem afv(h:gb n S j Q ak aq w x)(hi:j<n){s:E es}(cN:F s<=32)(d:∀an∈s,∃o∈w.n.ex,an.Bytes=o.Bytes/\an.c3=o.c3/\an.eJ=o.eJ/\0<=an.iG/\an.iG<=3/\fy an.mz):gb n S j Q ak aq {w with n.ex:=s} x:=by
 have aW:=h.hA hi;have ok:=aW.ok;refine Cd h hi (A:={w.n with ex:=s}) {ok with tg:=cN,oB:=λan N=>?_} rfl cU rfl rfl (λan N=>?_) rfl
 .have⟨o,b,g,u,y,z,A,C⟩:=d an N;have⟨p,q,t,_⟩:=ok.oB o b;exact cU
 .have⟨o,b,g,_⟩:=d an N;have⟨a,i,k,l,m⟩:=aW.oA o b;exact⟨a,i,k,by rw[g];exact l,m⟩
theorem akg(i:Bool×eR×Int×E (E Int))(w:fs)(f:hd)(a:Int×Bool)(cN:F w.n.ex<=32):de ((dq (wq w f a) 0).bind (Sum.elim (λ_=>Ae i w f a (-1)) (λD=>Ae i w f a D))) λv=>v.1=i.2.1/\v.2.1=i.2.2.1/\v.2.2.2=i.2.2.2/\F v.2.2.1<=32/\∀an∈v.2.2.1,an∈w.n.ex:=by
 obtain⟨s,d⟩:∃s,s=w.n.ex:=⟨_,rfl⟩;rw[<-d]at cN;obtain⟨b,k⟩:∃b:es->Bool,∀an,b an=(an.c3==f.dU.h1&&an.eJ==U e9 a.1):=⟨_,λ_=>rfl⟩;have x:∀g,g<F s->(if af:g<F s then b s[g]else Z)=Z->wq w f a (g:Int)=B (.inl ((g+1:Nat):Int)):=λg af Y=>by
  rw[dif_pos af,k]at Y;unfold wq;simp only[cQ.cL,<-d];rw[dO,dz af,c6,et af,cI,gz,gx,e6 af,cI,e7 I];cases aC:s[g].c3==f.dU.h1 with
  |false=>rfl
  |true=>rw[aC,Bool.true_and]at Y;rw[Y];rfl
 have y:∀g,g<F s->(if af:g<F s then b s[g]else Z)=T->wq w f a (g:Int)=B (.inr<|.inr (g:Int)):=λg af Y=>by rw[dif_pos af,k,Bool.and_eq_true]at Y;unfold wq;simp only[cQ.cL,<-d];rw[dO,dz af,c6,et af,cI,gz,gx,e6 af,cI,Y.1,Y.2];rfl
 have z:wq w f a (F s:Int)=B (.inr<|.inl ()):=by unfold wq;rw[<-d,dO,dr I];rfl
 have t:∀(j m:Nat) (L:E es) (aw:m<F L),j<m->F L=F s->Ds f a ((j:Int),(m:Int),L)=B (.inl (if(!b L[m])then(((j+1:Nat):Int),((m+1:Nat):Int),L.set j L[m])else((j:Int),((m+1:Nat):Int),L))):=λj m L aw K p=>by
  unfold Ds Dr;simp only;rw[dO,dz aw,c6];simp only[cQ.cL,et aw,gz,gx,e6 aw,cI,et (dd:j<F L),e6 (dd:j<F L),k];rw[e7 (dd:m<_),e7 (dd:j<_)];cases aC:L[m].c3==f.dU.h1 with
  |false=>rfl
  |true=>cases au:L[m].eJ==U e9 a.1<;>rfl
 have u:∀(j:Nat) (L:E es),F L=F s->Ds f a ((j:Int),(F L:Int),L)=B (.inr ((j:Int),L)):=λj L p=>by unfold Ds;simp only;rw[dO,dr I];rfl
 unfold Ae Jk;rw[<-d];rcases F0 _ x y z with⟨l,_⟩|⟨g,af,o,q,l⟩
 .rw[l];exact dg.2 ⟨rfl,rfl,rfl,cN,λan N=>N⟩
 .rw[l];simp only[cI,Sum.elim_inr];rw[hl I,dm,e7 I];have⟨j,L,aG,aD,aQ,aH⟩:=Me s (λan=> !b an) I t u af (by rw[dif_pos af]at o;simpa using o) (λC A=>by have:=q C A;rw[dif_pos I]at this;simpa using this);rw[aG];simp only[cI,gz];rw[dz ⟨I,I,I⟩,c6,dz ⟨I,I,FQ aQ⟩,c6,FR _ _ _ _ aQ,aH];exact dg.2 ⟨rfl,rfl,rfl,mY (xJ _ _) cN,λan N=>(oE.1 N).1⟩
def afB(w:fs)(v:eR×Int×(E es)×(E (E Int))):fs:={w with n.dl:=v.1,n.dx:=v.2.1,n.ex:=v.2.2.1,eL:=v.2.2.2}
theorem as5(h:gb n S j Q ak aq w x)(hi:j<n)(z:S+1<=4294836223)(A:F w.eL<30000){f:hd}{a:nD}(d:x.H a)(af:a.y.k=T)(G:f.dU=fN a.s)(k:f.f7=a.y.p):de (Ad w f) λv=>F v.2.2.2<=F w.eL+1/\∃ai,g5 x ai/\gb n (S+1) j Q ak aq (afB w v) ai:=by
 have⟨⟨_,_,_,K⟩,_⟩:=h.gd.h.ok a d;have D:=(Nx h.gd.jo K).1;have ok:=(h.hA hi).ok;have C:F a.y.p=5:=by
  cases e:a.y with
  |nY v=>simp[j6.p,m8,gY]
  |po v r=>simp[j6.p,m8,gY]
  |qj v r=>simp[j6.p,gY]
  |_=>rw[e]at af;cases af
 unfold Ad;refine(afo h hi z A d af G k).bind λb ab=>?_
 have⟨_,l,ai,m,o⟩:=ab;have i:∀g:E es,F g<=32->(∀an∈g,an∈w.n.ex)->de (B (b.2.1,b.2.2.1,g,b.2.2.2)) λv=>F v.2.2.2<=F w.eL+1/\∃ai,g5 x ai/\gb n (S+1) j Q ak aq (afB w v) ai:=λg aC au=>by
  refine dg.2 ⟨l,ai,m.y9,?_⟩;refine afv o hi aC λan N=>⟨an,au an N,rfl,rfl,rfl,?_⟩
  have:=ok.oB an<|au an N;exact⟨this.2.2.2.1,this.2.2.2.2.1,this.2.2.2.2.2⟩
 have all:=i w.n.ex ok.tg λan N=>N
 refine ep.2 ⟨λ_=>all,λ_=>?_⟩;unfold nO;rw[cI];refine ep.2 ⟨λ_=>?_,λ_=>all⟩;rw[k,C];refine ep.2 ⟨λ_=>all,λ_=>?_⟩;rw[show di a.y.p 0=B (a.y.p[0]'I)from et (g:=0) I,cI];refine ep.2 ⟨λ_=>all,λ_=>?_⟩;have e:a.y.p=a.y.p.take 1++a.y.p.drop 1++[]:=by rw[List.append_nil,List.take_append_drop]
 have p:=tc D e (j:=1) (n:=4) yB agI I I I;rw[(J:((1:Nat):Int)=1),(J:((4:Nat):Int)=4)]at p;rw[p,cI];refine(akg b w f _ ok.tg).mono λv ab=>?_
 have⟨q,s,t,u,y⟩:=ab;have:=i v.2.2.1 u y;rw[dg]at this;rwa[<-q,<-s,<-t]at this
def g4.aqz{K:Int}{u:E (Nat×E Int)}(h:g4 n S K Q ak u aq x){l:Nat×E Int}(b:XA K x l):g4 n S K Q ak (u++[l]) aq x:=⟨h.jo,h.kL,h.kV,h.hA,h.h,h.nV,λc a=>by rcases gq.1 a with a|a;exact h.q7 c a;rw[gO.1 a];exact b,h.jM,h.mT,h.pk,h.qv⟩
def ath(w:fs)(v:(E es)×(E (E Int))):fs:={w with n.ex:=v.1,eL:=v.2}
theorem as_(h:gb n S j Q ak aq w x)(hi:j<n)(aE:F w.eL<=5):de (Jq w) λv=>F v.2<=F w.eL+32/\gb n S j Q ak aq (ath w v) x:=by
 have aW:=h.hA hi;have ok:=aW.ok;have cN:=ok.tg;have ab:=h.gd.kL;have⟨t,aQ,ag⟩:=abf ab 3 I;rw[(J:((3:Nat):Int)=3)]at aQ;unfold Jq;refine de.bind (u:=λl=>F l.1<=F w.eL+32/\gb n S j Q ak aq {w with eL:=l.1} x/\F l.2<=32/\∀an∈l.2,∃o∈w.n.ex,an.Bytes=o.Bytes/\an.c3=o.c3/\an.eJ=o.eJ/\0<=an.iG/\an.iG<=3/\fy an.mz) (hk (λa=>∃g:Nat,a.1=(g:Int)/\g<=F w.n.ex/\F a.2.1<=F w.eL+g/\gb n S j Q ak aq {w with eL:=a.2.1} x/\F a.2.2<=g/\∀an∈a.2.2,∃o∈w.n.ex,an.Bytes=o.Bytes/\an.c3=o.c3/\an.eJ=o.eJ/\0<=an.iG/\an.iG<=3/\fy an.mz) (λa=>((F w.n.ex:Int)-a.1).toNat) (λa d=>?_) ⟨0,rfl,I,jq _,h,dh,dh⟩) λl q=>dg.2 ⟨q.1,afv q.2.1 hi q.2.2.1 q.2.2.2⟩
 have⟨aF,fr,ae⟩:=a;have⟨g,u,af,K,b,P,m⟩:=d;simp only at u K b P m;subst u;unfold We Js Jr;simp only[cQ.cL,iV];by_cases k:g<F w.n.ex
 .rw[dO,dz k,c6,et k,cI,gz,gx,e6 k,cI,e7 I];have s:=fi k;obtain⟨o,aa⟩:∃o,o=w.n.ex[g]:=⟨_,rfl⟩;rw[<-aa]at s⊢;have⟨aB,aC,aD,z,A,D⟩:=ok.oB o s;have y:∀(an:es) (p:E (E Int)),an.Bytes=o.Bytes->an.c3=o.c3->an.eJ=o.eJ->0<=an.iG->an.iG<=3->fy an.mz->F p<=F fr+1->gb n S j Q ak aq {w with eL:=p} x->de ((ej 56 ae [an]).bind λad=>B (dV (((g+1:Nat):Int),p,ad)):X ((Int×(E<|E Int)×(E es))⊕((E<|E Int)×(E es)))) λa=>(∃ao,a=.inl ao/\(∃g:Nat,ao.1=(g:Int)/\g<=F w.n.ex/\F ao.2.1<=F w.eL+g/\gb n S j Q ak aq {w with eL:=ao.2.1} x/\F ao.2.2<=g/\∀an∈ao.2.2,∃o∈w.n.ex,an.Bytes=o.Bytes/\an.c3=o.c3/\an.eJ=o.eJ/\0<=an.iG/\an.iG<=3/\fy an.mz)/\((F w.n.ex:Int)-ao.1).toNat<((F w.n.ex:Int)-(g:Int)).toNat)\/∃r,a=.inr r/\F r.1<=F w.eL+32/\gb n S j Q ak aq {w with eL:=r.1} x/\F r.2<=32/\∀an∈r.2,∃o∈w.n.ex,an.Bytes=o.Bytes/\an.c3=o.c3/\an.eJ=o.eJ/\0<=an.iG/\an.iG<=3/\fy an.mz:=λan p au av aw ax ay az aG aA=>by
   rw[he _ _ I QH,cI];refine dg.2 (.inl ⟨_,rfl,⟨g+1,rfl,I,ew,aA,Xh,λar N=>?_⟩,ew⟩);rcases gq.1 N with N|N
   .exact m ar N
   .rw[gO.1 N];exact⟨o,s,au,av,aw,ax,ay,az⟩
  refine ep.2 ⟨λ_=>ep.2 ⟨λ_=>?_,λC=>?_⟩,λ_=>y {o with iG:=o.iG,mz:=o.mz} fr rfl rfl rfl z A D I b⟩
  .exact dg.2<|.inl ⟨_,rfl,⟨g+1,rfl,I,ew,b,ew,m⟩,ew⟩
  .have C:o.iG≠0:=by simpa using C
   rw[(sM I).1,cI,he _ _ I QH,cI,aQ,cI,fx I I];refine y {o with iG:=o.iG-1,mz:=t} _ rfl rfl rfl ew ew ag dh ⟨?_,fv,h.ev⟩;have⟨a,ah,ai,aj,al,am,ap⟩:=aW.oA o s;have:=b.gd.aqz (l:=(j,o.Bytes)) ⟨a,ah,ai,aj,λt l i C=>absurd C<|al t l i,am,ap⟩;simp only[hN,hx,jY];exact this
 .rw[dO,dr k,dm];exact dg.2<|.inr ⟨_,rfl,ew,b,ew,m⟩
def Uy(Q:Nat->d3)(j:Nat):fo Q j (Q j)=Q:=by
 funext m;unfold fo;split
 next C=>rw[C]
 .rfl
def GA{a:Int}(h:fy a):sp a=B T:=agZ
def gb.aeP(h:g4 n S K Q ak [] aq x)(a:Int):gb n S j Q ak aq ⟨Q j,K,a,[],[]⟩ x:=⟨by rw[Uy];simpa using h,dh,dh⟩
def uE(n:Nat)(S K:Int)(j:Nat)(Q:Nat->d3)(ak:E (Nat×Int×E Int))(aq:E gK)(x:fG)(A:d3)(fr:E (E Int))(a:E gP):Prop:=F fr<=10300/\F a<=10/\∃ai,g5 x ai/\g4 n S K (fo Q j A) ak (fr.map λl=>(j,l)) (aq++a.map (qV K j)) ai
def gb.Z8{w:fs}{y4:fG}(h:gb n S j Q ak aq w x)(cN:g5 y4 x)(a:F w.eL<=10300):uE n S w.now j Q ak aq y4 w.n w.eL w.im:=⟨a,h.ev,x,cN,h.gd⟩
theorem amM(h:g4 n S K Q ak [] aq x)(hi:j<n)(am:S+10300<=4294836223){f:Nat×Int×E Int}(a2:f∈ak)(aV:f.1=j)(bc:f.2.1<=K)(N:Int):de (Dg (Q j) K f.2.2 N) λv=>v.2.2.2≠0\/(v.2.2.2=0/\uE n (S+10300) K j Q ak aq x v.1 v.2.1 v.2.2.1):=by
 have cR:=h.jo;have aW:=h.hA j hi;have ok:=aW.ok;have bg:=h.kL;have bd:=h.kV;have⟨_,a_,ba,a,d,al,⟨p,ar⟩,aS,aw,aR⟩:=h.nV f a2;rw[aV]at al;have⟨⟨ae,aO,an,ao⟩,_⟩:=h.h.ok a d;have⟨a4,f6⟩:=Nx cR ao;have aJ:=adI cR ao;have dG:=akM aJ dd ⟨an.1,by have:=an.2;omega⟩ aO f6 ar;have op:=ak_ cR ok.m5 ae al aO aJ an f6 a4 ar;have aU: @xY= @oN:=rfl;have av:gb n S j Q ak aq ⟨Q j,K,N,[],[]⟩ x:=gb.aeP h N;have a6:(⟨3,0,(g8 j).h1⟩:fj)=fN j:=rfl;have aF:(q2 a.y.k==3)=a.y.k:=by cases a.y.k<;>rfl
 have ag:∀{w:fs} {ai:fG},gb n (S+10300) j Q ak aq w ai->g5 x ai->w.now=K->F w.eL<=10300->∀A fr ap,A=w.n->fr=w.eL->ap=w.im->de (B (A,fr,ap,(0:Int))) λv=>v.2.2.2≠0\/(v.2.2.2=0/\uE n (S+10300) K j Q ak aq x v.1 v.2.1 v.2.2.1):=λ{w ai} aC au aL aT A fr ap aG aD aQ=>dg.2<|.inr ⟨rfl,by subst aG aD aQ;have:=aC.Z8 au aT;rwa[aL]at this⟩
 have az:∀m,a.y.d=B m->fj.fV (om a.y.d) (fN j)=decide (m=j):=λm e=>by rw[e];exact R9
 have aB:∀t:eR×Int,(∀m,a.y.d=B m->m=j)->yw n j (Q j).dl t.1 a.y.k a.s a.c a.y.p->de (bif a.y.k then(Ad ⟨{Q j with dl:=t.1},K,N,[],[]⟩<|jg a.y.k a.q a.y.d a.s a.c a.y.p p).bind λab=>oN (Q j) (ab.1,ab.2.1,(Q j).jx,(Q j).eA,(Q j).dW,(Q j).g1,ab.2.2.2,[],ab.2.2.1)else(Af ⟨{Q j with dl:=t.1},K,N,[],[]⟩<|jg a.y.k a.q a.y.d a.s a.c a.y.p p).bind λs=>oN (Q j) (s.1,s.2.1,(Q j).jx,s.2.2.1,s.2.2.2.1,s.2.2.2.2.1,s.2.2.2.2.2.2.1,s.2.2.2.2.2.2.2,s.2.2.2.2.2.1)) λv=>v.2.2.2≠0\/(v.2.2.2=0/\uE n (S+10300) K j Q ak aq x v.1 v.2.1 v.2.2.1):=by
  intro t aa ah;have a3:=h.take hi d al aa ah;have⟨aK,a5,_⟩:=ady h hi d al ah;have aN:gb n S j Q ak aq ⟨{Q j with dl:=t.1},K,N,[],[]⟩ (x.take a):=⟨by simpa using a3,dh,dh⟩;have aI:g5 x (x.take a):=⟨rfl,rfl⟩;unfold oN;refine ep.2 ⟨λC=>?_,λC=>?_⟩
  .refine(as5 aN hi I dh (f:=jg a.y.k a.q a.y.d a.s a.c a.y.p p) (a:=a) d C rfl rfl).bind λab aY=>?_
   have⟨q,ai,u,D⟩:=aY;have q:F ab.2.2.2<=0+1:=q;exact ag (D.mono I am) (aI.trans u) rfl (by show F ab.2.2.2<=_;omega) _ _ _ rfl rfl rfl
  .have aX:WT n j K t.1 (x.take a) a:=by
    refine⟨d,C,al,aa,λp l i e=>?_,a5,aw,λP g tag e aD=>?_,λP g tag e o ad a8 aP a7 af=>?_,λP e=>?_⟩
    .have⟨aj,bh⟩:=aS p l i e;exact⟨I,I⟩
    .have aj:=aR P g tag e aD;show K<=x.R a.s+3;omega
    .have⟨a9,bb,l⟩:=(aW.kU o ad).2 a8;have aQ:=l.p4;have aH:=aw P g tag e;have aA:P.s=a.s:=by rw[e]at ao;exact ao.2.1
     rw[aP,a7,aA,aH]at aQ;cases aQ;have:=l.pq g af;rw[aP,aA,(dd:a.c-(g:Int)+g=a.c)]at this;exact aK this
    .rcases h.h.jV a P d e with aj|aj
     .rw[aa _ (NW e).1]at aj;exact absurd aj aK
     .exact⟨by show(match a.y.jV with|some P=>qx x.f6 P.o P.nu .lw|none=>x.f6) P.o P.nu=_;rw[e];exact Cc,aj.2⟩
   refine(as6 aN hi I dh dh aX (ar:=p)).bind λs aZ=>?_
   have⟨q,ai,u,D⟩:=aZ;have q:F s.2.2.2.2.2.2.1<=0+10200:=q;exact ag (D.mono I am) (aI.trans u) rfl (by show F s.2.2.2.2.2.2.1<=_;omega) _ _ _ rfl rfl rfl
 have ax:∀{w:fs} {ai:fG},gb n (S+10300) j Q ak aq w ai->gb n (S+10300) j Q ak aq {w with n.jx:=T} ai:=λ{w ai} C=>
  have y:=(C.hA hi).ok
  Cd C hi (A:={w.n with jx:=T}) ⟨y.g8,y.m5,y.seq,y.tag,y.num,y.FN,y.FW,y.Hj,y.nv,y.lP,y.tg,y.oB,y.zr,y.set,y.xg,y.bind⟩ rfl cU rfl rfl (C.hA hi).oA rfl
 have aE:de (bif (q2 a.y.k !=3)then oN (Q j) ((Q j).dl,(Q j).dx,T,(Q j).eA,(Q j).dW,(Q j).g1,[],[],(Q j).ex)else(uR ⟨Q j,K,N,[],[]⟩<|jg a.y.k a.q a.y.d a.s a.c a.y.p p).bind λz=>bif z.1 then oN (Q j) (z.2.1,z.2.2.1,(Q j).jx,(Q j).eA,(Q j).dW,(Q j).g1,z.2.2.2,[],(Q j).ex)else oN (Q j) (z.2.1,z.2.2.1,T,(Q j).eA,(Q j).dW,(Q j).g1,z.2.2.2,[],(Q j).ex)) λv=>v.2.2.2≠0\/(v.2.2.2=0/\uE n (S+10300) K j Q ak aq x v.1 v.2.1 v.2.2.1):=by
  unfold oN;refine ep.2 ⟨λC=>?_,λC=>?_⟩
  .exact ag (ax<|av.mono I am) g5.rfl' rfl dh _ _ _ rfl rfl rfl
  .have af:a.y.k=T:=by rw[<-aF];simpa using C
   refine(afo av hi I dh d af rfl rfl).bind λz a0=>?_
   have⟨_,q,ai,u,D⟩:=a0;have q:F z.2.2.2<=0+1:=q;have ay:=D.mono (k:=S+10300) I am;refine ep.2 ⟨λ_=>?_,λ_=>?_⟩
   .exact ag ay u.y9 rfl ag2 _ _ _ rfl rfl rfl
   .exact ag (ax ay) u.y9 rfl ag2 _ _ _ rfl rfl rfl
 unfold Dg;rw[BK cR hi ok,GA pK,dG,ok.g8,(GG cR hi ok).2,aU];simp only[cI,c6,(J:((0:Int) !=0)=Z),dm,nO,a6];rw[(J:((jg a.y.k a.q a.y.d a.s a.c a.y.p p).o2 !=(g8 j).o2)=Z),(J:(jg a.y.k a.q a.y.d a.s a.c a.y.p p).qH=T),(J:((jg a.y.k a.q a.y.d a.s a.c a.y.p p).dU.Mode !=3)=Z),show fj.fV (jg a.y.k a.q a.y.d a.s a.c a.y.p p).dU (fN j)=Z by show fj.fV (fN a.s) (fN j)=_;rw[R9];exact dr al,(J:(jg a.y.k a.q a.y.d a.s a.c a.y.p p).ed=om a.y.d),(J:(jg a.y.k a.q a.y.d a.s a.c a.y.p p).gi=q2 a.y.k)];simp only[c6,dm,aF];refine ep.2 ⟨λC=>?_,λC=>?_⟩
 .have aa:∀m,a.y.d=B m->m=j:=λm e=>by rw[az m e]at C;exact f8 C
  refine de.bind op λt b=>?_
  rcases b with b|b|⟨b,ah⟩
  .rw[b];simp only[(J:((13:Int)==0)=Z),(J:((13:Int)==11)=Z),beq_self_eq_true,c6,dm];refine ep.2 ⟨λ_=>?_,λ_=>dg.2<|Oo (by decide:(13:Int)≠0)⟩;refine(afn av hi I dh ae (f:=jg a.y.k a.q a.y.d a.s a.c a.y.p p) rfl an).bind λaM a1=>?_
   have⟨q,_,ai,u,D⟩:=a1;unfold oN;have q:F aM.2.2=0+1:=q;exact ag (D.mono I am) u.y9 rfl (by show F aM.2.2<=_;omega) _ _ _ rfl rfl rfl
  .rw[b];exact aE
  .rw[b];exact aB t aa ah
 .have bf:∀m,a.y.d=B m->m≠j:=λm e=>by rw[az m e]at C;exact of_decide_eq_false C
  unfold zQ;rw[cI];refine ep.2 ⟨λau=>?_,λ_=>dg.2<|.inl (by decide:(17:Int)≠0)⟩;have aa:∀m,a.y.d=B m->m=j:=λm e=>by rw[e]at au;cases au
  refine de.bind op λt b=>?_
  rcases b with b|b|⟨b,ah⟩
  .rw[b];simp only[(J:((13:Int)==0)=Z),(J:((13:Int)==11)=Z),beq_self_eq_true,c6,dm];exact ep.2 ⟨λ_=>dg.2<|Oo (by decide:(13:Int)≠0),λ_=>dg.2<|Oo (by decide:(13:Int)≠0)⟩
  .rw[b];exact aE
  .rw[b];exact aB t aa ah
def amo{K:Int}(ax:fy K)(i:Int):IS [] K i=B ([],[],0):=by have v:z6 []=B T:=J;have c:Ph []=B []:=J;have a:dq (V5 []) ()=B ():=J;have b:dq (V6 []) ()=B ():=J;unfold IS Pi;rw[v,cI,c6,dz ax.1,c6,cI,dz ax.2,c6,c,cI,a,cI,b];rfl
def amp:Pg []=B []:=J
def M2(v a:Int):eR:=⟨[⟨1,n2⟩],a,a+65536,v,[]⟩
def pY(j:Nat)(K v a:Int):d3:=⟨g8 j,M2 v a,0,T,0,a,a%268435456,K+23,K,G8 j K,[],[],[],zt,[],[]⟩
theorem SJ{K:Int}(ax:0<=K/\K<=100000)(i:Int)(a:0<=i/\i<1000):tz K i=B (K+i):=by unfold tz;rw[fx I I,dA I]
theorem abI{n j:Nat}(cR:n<=4)(hi:j<n){K v a:Int}(ax:0<=K/\K<=100000)(ab:iK v)(ay:0<=a/\a+65536<=4294967295):uZ n j (pY j K v a):=⟨rfl,⟨rfl,ag3,ag3,ab,by simp[pY,M2],by simp[pY,M2,iy]⟩,by simp[pY],by simp[pY,g6],by simp only[pY];unfold iK;omega,by simp only[pY];omega,ag4,ag4,aq6 pK,⟨[],rfl,dh,dh,dh⟩,by simp[pY],by simp[pY],rfl,rfl,rfl,rfl⟩
theorem abG{n j:Nat}(cR:n<=4)(hi:j<n){K v a:Int}(ax:0<=K/\K<=100000)(ab:iK v)(ay:0<=a/\a+65536<=4294967295):Aa (g8 j) K v a zt=B (pY j K v a,0):=by
 have⟨p,_,q,_⟩:=L5 (dd:j<4);have s:C3 zt=B T:=J;have ar:qF n j ⟨[⟨1,n2⟩],a,a,v,[]⟩:=⟨rfl,ew,ew,ab,dh,by simp[iy]⟩;have iO:zY ⟨[⟨1,n2⟩],a,a,v,[]⟩ 65536=B (M2 v a,0):=by have⟨w,e,b,m,d,i,k,o⟩:=aax cR ar;rw[e];have⟨⟨g,c,r,A,z⟩,an⟩:=w;have l:=m.rP;simp only at b d i k o l;have:r=a+65536:=I;subst b d i k l this;rfl
 unfold Aa;rw[q,s,GA pK];simp only[cI,c6];rw[(J:(g8 j).hJ=n2),iO];simp only[cI,(J:((0:Int) !=0)=Z),dm];rw[show DX (g8 j).h1 K (g8 j).gu=B (G8 j K,0)from aq8 I pK];simp only[cI,(J:((0:Int) !=0)=Z),dm];rw[(sM (s:=zt.gA) h8).1,p,SJ ax 23 I];simp only[cI];rw[Cs ay.1,fx I I];rfl
theorem amN(h:g4 n S K Q ak [] aq x)(hi:j<n)(g:S+131072<=4294836223){v:Int}(ab:iK v)(d:x.eH<v):∃A,I9 (Q j) K v=B (A,0)/\∃ai,ai.L=x.L/\ai.eH=v/\g4 n (S+131072) K (fo Q j A) ak [] aq ai:=by
 have aW:=h.hA j hi;have ok:=aW.ok;have a:=h.kL;have k:=ok.m5.jQ;have ay:=aW.jQ;have i:=h.kV;have b:0<=(Q j).dl.h3/\(Q j).dl.h3+65536<=4294967295:=I;refine⟨pY j K v (Q j).dl.h3,?_,x.l9 j K v λq=>(fo Q j (pY j K v (Q j).dl.h3) q).dl.eJ,rfl,rfl,h.l9 hi g (abI h.jo hi a ab b) rfl d rfl rfl ?_ rfl rfl rfl rfl⟩
 .unfold I9;rw[BK h.jo hi ok,cI,c6,ok.g8,ok.set,abG h.jo hi a ab b];rfl
 .show(if _ then _ else _)=_;rw[dA I]
theorem amQ(h:g4 n S K Q ak [] aq x)(hi:j<n):∃A,Jb (Q j) K=B (A,0)/\g4 n S K (fo Q j A) ak [] aq x:=by have aW:=h.hA j hi;have ok:=aW.ok;have a:=h.kL;have eM:=aW.eM;refine⟨{Q j with dW.gH:=K+16,dW.gX:=[],dW.hh:=[],dW.hj:=[]},?_,h.put hi ⟨{ok with nv:=ara ok.nv pK},ew,aW.eM,aW.jQ,aW.num,aW.mN,aW.rM,aW.pT,aW.tag,aW.oA,aW.lP,aW.qQ,aW.kU⟩ rfl rfl⟩;unfold Jb;rw[BK h.jo hi ok,cI,c6,GA pK,cI,c6,(GG h.jo hi ok).1,cI,SJ a 16 I];rfl
theorem amO(h:g4 n S K Q ak [] aq x)(hi:j<n)(k:S+10300<=4294836223){l:Nat}{z:ee}(g:l<n)(Y:lI j l z)(i:F x.L<25):de (I_ (Q j) K z) λv=>v.2.2.2≠0\/(v.2.2.2=0/\F v.2.1<=10300/\F v.2.2.1<=10/\∃ai,ai.L=x.L++[⟨j,(Q j).ga,l,z⟩]/\ai.eH=x.eH/\g4 n (S+10300) K (fo Q j v.1) ak (v.2.1.map λl=>(j,l)) (aq++v.2.2.1.map (qV K j)) ai):=by
 have cR:=h.jo;have aW:=h.hA j hi;have ok:=aW.ok;have u:=h.kL;have t:=h.kV;have⟨y,o⟩:=h.iA hi (e:=⟨j,(Q j).ga,l,z⟩) rfl rfl g Y i;have p:=ok.num;have s:U e9 ((Q j).ga+1)=(Q j).ga+1:=by rw[uk];have:=p.1;omega
 have q:gb n S j Q ak aq ⟨{Q j with ga:=(Q j).ga+1},K,0,[],[]⟩ (x.iA ⟨j,(Q j).ga,l,z⟩):=⟨by simpa using o,dh,dh⟩;unfold I_;rw[BK cR hi ok,abs dd Y,GA pK,(GG cR hi ok).2,ok.g8,hl dd];simp only[cI,c6,dm,s];refine ep.2 ⟨λ_=>dg.2 cU,λC=>?_⟩;have aC:(Q j).dW.gH<=K:=agU;have m:EK n j (x.iA ⟨j,(Q j).ga,l,z⟩) K j (Q j).ga l z:=⟨hi,g,I,ok.num,Y,Cc,⟨⟨j,(Q j).ga,l,z⟩,tk _ (List.mem_singleton_self _),rfl,rfl,rfl,rfl,nK _⟩,λ_=>by have:=Y.hops;show z.e3+((if j=j/\(Q j).ga=(Q j).ga then 0 else _:Nat):Int)<=255;rw[dE ⟨rfl,rfl⟩];omega⟩
 refine de.bind (UC q hi I dh dh m (b:=⟨⟨jX,0⟩,⟨jX,0⟩,0⟩) (A:=Z) nofun λ_=>aC) λv ab=>dg.2<|.inr ?_
 have⟨a,ai,b,d⟩:=ab;have a:F v.2.2.2.2.1<=0+20:=a;exact⟨rfl,ew,d.ev,ai,b.1,b.2,(d.mono I k).gd⟩
theorem amP(h:g4 n S K Q ak [] aq x)(hi:j<n)(ax:S+10300<=4294836223)(l:Int):de (Dh (Q j) K l) λv=>v.2.2.2=0/\uE n (S+10300) K j Q ak aq x v.1 v.2.1 v.2.2.1:=by
 have cR:=h.jo;have aW:=h.hA j hi;have ok:=aW.ok;have ay:=h.kL;have aE:=h.kV;have q:fy K:=pK;have az:gb n S j Q ak aq ⟨Q j,K,l,[],[]⟩ x:=gb.aeP h l;have N:=UD az hi (L:=pW (x.kC j) K) (abh aW.qQ K) λo ad=>aW.kU o (oE.1 ad).1
 have D:g5 x (x.r2 j<|pW (x.kC j) K):=⟨rfl,rfl⟩;have z:∀(ae:eR) (m:Int) (a:Bool) (fr:E (E Int)) (aS:fG),F fr<=1->g5 x aS->gb n (S+1) j Q ak aq ⟨{Q j with dl:=ae,dx:=m,jx:=a,g1:=(pW (x.kC j) K).map<|gr.b j},K,l,fr,[]⟩ aS->de (Di (Q j) ((pW (x.kC j) K).map<|gr.b j,0) K l (ae,m,a,fr)) λv=>v.2.2.2=0/\uE n (S+10300) K j Q ak aq x v.1 v.2.1 v.2.2.1:=by
  intro ae m a fr aS aC au aL;unfold Di;simp only;refine(as_ aL hi ef).bind λd aw=>?_
  have⟨g,i⟩:=aw;have g:F d.2<=F fr+32:=g;refine(aq9 cR hi ok.nv q).bind λs ap=>?_
  have⟨aa,af,ag,ah,al⟩:=ap;rw[aa,beq_self_eq_true,c6];have k:=Cd i hi (A:={Q j with dl:=ae,dx:=m,jx:=a,dW:=s.1,g1:=(pW (x.kC j) K).map<|gr.b j,ex:=d.1}) (by have y:=(i.hA hi).ok;exact⟨y.g8,y.m5,y.seq,y.tag,y.num,y.FN,y.FW,y.Hj,af,y.lP,y.tg,y.oB,y.zr,y.set,y.xg,y.bind⟩) rfl (by show(Q j).dW.gH<=s.1.gH;rw[ag];exact nK _) rfl rfl (i.hA hi).oA rfl
  refine(aft k hi ah al I (by show F d.2<=_;omega)).bind λp ar=>?_
  have⟨u,aN,an,t⟩:=ar;have u:F p.2.2<=F d.2+10100:=u;rw[ok.zr,amo q];simp only[cI,beq_self_eq_true,c6];rw[(J:dq (Wb (([]:E hR),([]:E yD),(0:Int))) ()=B ()),cI];have A:∀b:Int,fy b->de (Dj (Q j) p (ae,m,a,fr) s ((pW (x.kC j) K).map<|gr.b j,0) d ([],[],0) b) λv=>v.2.2.2=0/\uE n (S+10300) K j Q ak aq x v.1 v.2.1 v.2.2.1:=λb aj=>by unfold Dj;have y:=(t.hA hi).ok;have ao:=Cd t hi (A:={Q j with dl:=p.1,dx:=p.2.1,jx:=a,o4:=b,dW:=s.1,g1:=(pW (x.kC j) K).map<|gr.b j,ex:=d.1,ni:=[]}) ⟨y.g8,y.m5,y.seq,y.tag,y.num,y.FN,y.FW,aj,y.nv,y.lP,y.tg,y.oB,rfl,y.set,y.xg,y.bind⟩ rfl (nK _) rfl rfl (t.hA hi).oA rfl;exact dg.2 ⟨rfl,(ao.mono I ax).Z8 (au.trans an.y9) (by show F p.2.2<=_;omega)⟩
  refine ep.2 ⟨λ_=>?_,λ_=>A _ ok.Hj⟩;rw[SJ ay 4 I,cI];have b:∀w:fs,w.n.ni=[]->w.n.j9=zt->w.n.pL=[]->Jv w=B ():=λw aA aB aD=>by unfold Jv;rw[aA,aB,aD,amp];rfl
  rw[b _ rfl ok.set ok.xg,cI];exact A _ pK
 unfold Dh;rw[BK cR hi ok,GA q,(GG cR hi ok).2];simp only[cI,c6];rw[aW.lP,aae aW.qQ q];simp only[cI,beq_self_eq_true,c6];refine ep.2 ⟨λ_=>?_,λ_=>z _ _ _ _ _ dh D<|N.mono I I⟩;have ab:=ok.m5.t9;have am:Ik (Q j).dl=B (m8 1 (Q j).dl.it):=by unfold Ik Pa;rw[F4 cR ok.m5,cI,c6,ju ab.1 (by have:=ab.2;omega)];exact dS (dS (am2 [1] _ 4 I dh) rfl) rfl
 rw[am,cI];refine de.bind (afu N hi I (by simp[N4]) (o:=.nY (Q j).dl.it) rfl rfl ⟨ab,λv C=>by cases C;rfl,nofun,nofun,nofun,λP C=>(by rcases C with C|⟨_,_,C⟩<;>cases C),nofun⟩) λv av=>?_
 have⟨g,ai,i,k⟩:=av;have g:F v.2.2=0+1:=g;have y:=(k.hA hi).ok;exact z _ _ _ _ ai I (D.trans i.y9)<|Cd k hi (A:={Q j with dl:=v.1,dx:=v.2.1,jx:=Z,g1:=(pW (x.kC j) K).map<|gr.b j}) ⟨y.g8,y.m5,y.seq,y.tag,y.num,y.FN,y.FW,y.Hj,y.nv,y.lP,y.tg,y.oB,y.zr,y.set,y.xg,y.bind⟩ rfl (nK _) rfl rfl (k.hA hi).oA rfl
def mO(s:E d3):Nat->d3:=λm=>s.getD m (pY 0 0 0 0)
def vQ{s:E d3}{m:Nat}(h:m<F s):mO s m=s[m]:=by unfold mO;simp[h]
def am0{s:E d3}{j:Nat}(h:j<F s)(A:d3):mO (s.set j A)=fo (mO s) j A:=by
 funext m;unfold mO fo;split
 next e=>subst e;simp[h]
 next e=>simp[List.getElem?_set,l5 e]
def pf(f:gm):Nat×Int×E Int:=(f.c3.toNat,f.p8,f.Bytes)
structure uW(n:Nat)(A:eZ):Prop where
 nt:F A.fB=n
 mq:F A.eg=n/\∀g (af:g<F A.eg),F (A.eg[g])=n/\(A.eg[g])[g]?=B Z
 pP:F A.hU=n
 qX:F A.hg<=1024/\∀f∈A.hg,0<=f.c3
 vw:F A.jr<=65536/\fS A.jr
 jM:F A.fI<=4096
variable{A:eZ}
def tK(n j:Nat)(A:eZ)(u:E (E Int))(f:gm):Prop:=f∈A.hg\/(0<=f.c3/\f.c3.toNat<n/\j≠f.c3.toNat/\A.fg+1<=f.p8/\f.p8<=A.fg+3/\f.Bytes∈u)
theorem asC(aj:uW n A)(hi:j<n)(cR:n<=4)(ax:0<=A.fg/\A.fg<=100000){u:E (E Int)}(ap:F u<=10300)(al:∀l∈u,F l<=1000):de (I8 ⟨A⟩ j u) λv=>F v.1<=1024/\(∀f∈v.1,tK n j A u f)/\F v.2<=65536/\fS v.2:=by
 have G:=aj.qX;have ae:=aj.vw;unfold I8;refine de.bind (u:=λv=>F v.1<=1024/\(∀f∈v.1,tK n j A u f)/\F v.2<=65536/\fS v.2) (hk (λa=>∃g:Nat,a.1=(g:Int)/\g<=F u/\F a.2.1<=1024/\(∀f∈a.2.1,tK n j A u f)/\F a.2.2<=65536/\fS a.2.2) (λa=>((F u:Int)-a.1).toNat) (λa d=>?_) ⟨0,rfl,I,G.1,λf o=>.inl o,ae.1,ae.2⟩) λl t=>dg.2 t
 have⟨av,k,P⟩:=a;have⟨g,ai,af,K,Q,S,aa⟩:=d;simp only at ai K Q S aa;subst ai;unfold V_;simp only;by_cases z:g<F u
 .rw[dO,dz z,c6,et z,cI,e7 I];have t:=fi z;generalize u[g]=l at t;have aq:=al l t;refine de.bind (u:=λv=>F v.1<=1024/\(∀f∈v.1,tK n j A u f)/\F v.2<=65536/\fS v.2) (hk (λa=>∃m:Nat,a.1=(m:Int)/\m<=n/\F a.2.1<=1024/\(∀f∈a.2.1,tK n j A u f)/\F a.2.2<=65536/\fS a.2.2) (λa=>((n:Int)-a.1).toNat) (λa d=>?_) ⟨0,rfl,I,K,Q,S,aa⟩) λv ab=>dg.2<|.inl ⟨_,rfl,⟨g+1,rfl,I,ab⟩,ew⟩
  have⟨ar,k,P⟩:=a;have⟨m,ag,aw,s,p,y,q⟩:=d;simp only at ag s p y q;subst ag;unfold Wa;simp only[aj.nt];by_cases ah:m<n
  .rw[dO,dz ah,c6];have D:∀x b,F x<=1024->(∀f∈x,tK n j A u f)->F b<=65536->fS b->de (uP ((m:Int),k,P) (x,b)) λa=>(∃ao,a=.inl ao/\(∃m:Nat,ao.1=(m:Int)/\m<=n/\F ao.2.1<=1024/\(∀f∈ao.2.1,tK n j A u f)/\F ao.2.2<=65536/\fS ao.2.2)/\((n:Int)-ao.1).toNat<((n:Int)-(m:Int)).toNat)\/∃r,a=.inr r/\F r.1<=1024/\(∀f∈r.1,tK n j A u f)/\F r.2<=65536/\fS r.2:=λx b aG aD aQ aH=>by unfold uP;simp only;rw[e7 I];exact dg.2<|.inl ⟨_,rfl,⟨m+1,rfl,I,aG,aD,aQ,aH⟩,ew⟩
   have ad:=D k P s p y q;refine ep.2 ⟨λ_=>ad,λC=>?_⟩;have C:m≠j:=by have:¬((m:Int)=(j:Int)):=by simpa using C
                                                                     omega
   have ay:=aj.pP;have az:=aj.mq.1;have aA:=(aj.mq.2 j I).1;rw[et (s:=A.hU) I,cI];refine ep.2 ⟨λ_=>ad,λ_=>?_⟩;rw[et (s:=A.eg) I,cI,et (s:=A.eg[j]) I,cI];refine ep.2 ⟨λ_=>?_,λ_=>ad⟩;have ak:∀i b,0<=i/\i<=255->F b<=65536->fS b->de (De ((m:Int),k,P) l ⟨A⟩ (i,b)) λa=>(∃ao,a=.inl ao/\(∃m:Nat,ao.1=(m:Int)/\m<=n/\F ao.2.1<=1024/\(∀f∈ao.2.1,tK n j A u f)/\F ao.2.2<=65536/\fS ao.2.2)/\((n:Int)-ao.1).toNat<((n:Int)-(m:Int)).toNat)\/∃r,a=.inr r/\F r.1<=1024/\(∀f∈r.1,tK n j A u f)/\F r.2<=65536/\fS r.2:=λi b aG aQ aH=>by
    unfold De;simp only;refine ep.2 ⟨λ_=>D k b s p aQ aH,λ_=>ep.2 ⟨λ_=>D k b s p aQ aH,λau=>?_⟩⟩;have au:F k<1024:=agW;have am:0<=hc (hf W i 4) 3/\hc (hf W i 4) 3<=2:=by unfold hf;rw[ux aG.1,fx I I,Cs I];omega
    rw[(sM (s:=l) I).1,cI,fx (a:=A.fg+1) I I,fx (a:=A.fg+1+_) I I,dA I,he _ _ I E2,cI];refine D _ b ag5 (λf o=>?_) aQ aH;rcases gq.1 o with o|o
    .exact p f o
    .rw[gO.1 o];exact .inr ⟨ew,ew,ew,ew,ew,t⟩
   refine ep.2 ⟨λau=>?_,λ_=>ak 0 P I y q⟩;have au:0<F P:=by have:=f8 au;omega
   have dK:=q _ (fi au);rw[show di P 0=B P[0]from et (g:=0) au,cI,pr I I I,cI,fx I I];exact ak _ _ dK Xa λan N=>q an<|List.mem_of_mem_take<|List.mem_of_mem_drop N
  .rw[dO,dr ah,dm];exact dg.2<|.inr ⟨_,rfl,s,p,y,q⟩
 .rw[dO,dr z,dm];exact dg.2<|.inr ⟨_,rfl,K,Q,S,aa⟩
theorem adz(aj:uW n A){P:E (Nat×Int×E Int)}(hi:j<n){o:d3}{fr:E (E Int)}{b:E gP}{S:Int}{x:fG}(h:g4 n S A.fg (fo (mO A.fB) j o) (A.hg.map pf++P) (fr.map λl=>(j,l)) (A.fI++b.map (qV A.fg j)) x)(ae:F fr<=10300)(al:F b<=10):de (uO ⟨A⟩ j o fr b 0) λv=>v.1=0/\uW n v.2.eC/\v.2.eC.fg=A.fg/\v.2.eC.eg=A.eg/\v.2.eC.hU=A.hU/\v.2.eC.fB=A.fB.set j o/\(∀f∈v.2.eC.hg,f∈A.hg\/A.fg<f.p8)/\g4 n S v.2.eC.fg (mO v.2.eC.fB) (v.2.eC.hg.map pf++P) [] v.2.eC.fI x:=by
 have cR:=h.jo;have D:=aj.nt;have am:=aj.jM;have aa:∀l∈fr,F l<=1000:=λl t=>by have⟨a,ai,_,ak,_⟩:=h.q7 (j,l) cU;have:=K8 cR ak (h.h.ok a ai).1.2.2.2;simp only at this;omega
 unfold uO;simp only[(J:((0:Int) !=0)=Z),dm,cQ.cL,gz,gx];rw[et I,cI,e6 I,cI];have ag:uW n {A with fB:=A.fB.set j o}:=⟨by simpa using D,aj.mq,aj.pP,aj.qX,aj.vw,aj.jM⟩;refine(asC ag hi cR h.kL ae aa).bind λao ab=>?_
 have⟨K,p,N,Q⟩:=ab;refine de.bind (u:=λl=>F l<=4096/\l.Sublist (A.fI++b.map (qV A.fg j))) (hk (λa=>∃g:Nat,a.1=(g:Int)/\g<=F b/\F a.2<=4096/\a.2.Sublist (A.fI++(b.take g).map (qV A.fg j))) (λa=>((F b:Int)-a.1).toNat) (λa d=>?_) ef) λl t=>dg.2 ?_
 .have⟨an,L⟩:=a;have⟨g,z,af,s,m⟩:=d;simp only at z s m;subst z;unfold V7 I3;simp only;by_cases k:g<F b
  .rw[dO,dz k,c6,et k,cI,e7 I];have ah:(A.fI++(b.take g).map (qV A.fg j)).Sublist (A.fI++(b.take<|g+1).map (qV A.fg j)):=by rw[na k,hN,<-iu];exact List.sublist_append_left _ _
   refine ep.2 ⟨λC=>?_,λ_=>dg.2<|.inl ⟨_,rfl,⟨g+1,rfl,I,s,m.trans ah⟩,ew⟩⟩;have C:F L<4096:=by have:=f8 C;omega
   have⟨q,u⟩:=h.qv (qV A.fg j b[g])<|tk _ (hT.2 ⟨_,fi k,rfl⟩);have q:F b[g].lM.f7<=1000:=q;have u:F b[g].gA<=1000:=u;unfold Df;rw[L7 q,cI,(sM (s:=b[g].gA) I).1,cI,cI,he _ _ I E2,cI];refine dg.2<|.inl ⟨_,rfl,⟨g+1,rfl,I,ag5,?_⟩,ew⟩;simp only[cQ.cL];rw[na k,hN,<-iu];exact m.append<|xM _
  .rw[dO,dr k,dm];refine dg.2<|.inr ⟨_,rfl,s,?_⟩;have:g=F b:=I;rw[this,iV]at m;exact m
 .refine⟨rfl,⟨by simpa using D,aj.mq,aj.pP,⟨K,λf i=>?_⟩,⟨N,Q⟩,t.1⟩,rfl,rfl,rfl,rfl,λf i=>?_,?_⟩
  .rcases p f i with C|C
   .exact aj.qX.2 f C
   .exact C.1
  .rcases p f i with C|⟨_,_,_,C,_⟩
   .exact .inl C
   .exact .inr (by simp only at C;omega)
  .simp only;rw[am0 I];refine h.y2 (λf i=>?_) t.2;rcases gq.1 i with i|i
   .obtain⟨y,ad,rfl⟩:=hT.1 i;rcases p y ad with C|⟨_,aC,au,aL,aT,aK⟩
    .exact .inl<|r9 _ (hT.2 ⟨y,C,rfl⟩)
    .exact .inr ⟨aC,aL,aT,j,au,hT.2 ⟨_,aK,rfl⟩⟩
   .exact .inl<|tk _ i
structure iC(n:Nat)(S:Int)(A:eZ)(x:fG):Prop where
 s:uW n A
 gd:g4 n S A.fg (mO A.fB) (A.hg.map pf) [] A.fI x
theorem jF(i:E gm)(K:Int)(x:F i<=1024)(A:eZ)(u:A.hg=i)(ax:A.fg=K):de (dq (Pk ⟨A⟩) ([],[],0)) λl=>F l.1<=1024/\F l.2<=1024/\(∀f∈l.1,f∈i/\f.p8<=K)/\∀f∈l.2,f∈i/\K<f.p8:=by
 refine hk (λa=>∃g:Nat,a.2.2=(g:Int)/\g<=F i/\F a.1<=g/\F a.2.1<=g/\(∀f∈a.1,f∈i/\f.p8<=K)/\∀f∈a.2.1,f∈i/\K<f.p8) (λa=>((F i:Int)-a.2.2).toNat) (λa d=>?_) ef;have⟨P,R,y⟩:=a;have⟨g,q,af,s,t,j,k⟩:=d;simp only at q s t j k;subst q;unfold Pk I5;simp only[u,ax,cQ.cL];by_cases m:g<F i
 .rw[dO,dz m,c6,et m,cI,e7 I];have p:=fi m;generalize i[g]=f at p;refine ep.2 ⟨λC=>?_,λC=>?_⟩
  .have C:=f8 C;rw[he _ _ I QH,cI];refine dg.2 (.inl ⟨_,rfl,⟨g+1,rfl,I,Xh,ew,λo b=>?_,k⟩,ew⟩);rcases gq.1 b with b|b
   .exact j o b
   .rw[gO.1 b];exact⟨p,C⟩
  .have C:K<f.p8:=by have:=of_decide_eq_false C;omega
   rw[he _ _ I QH,cI];refine dg.2 (.inl ⟨_,rfl,⟨g+1,rfl,I,ew,Xh,j,λo b=>?_⟩,ew⟩);rcases gq.1 b with b|b
   .exact k o b
   .rw[gO.1 b];exact⟨p,C⟩
 .rw[dO,dr m,dm];exact dg.2<|.inr ⟨_,rfl,ew,ew,j,k⟩
structure qc(n:Nat)(S K:Int)(P:E gm)(A:eZ)(x:fG):Prop where
 s:uW n A
 t_:A.fg=K
 gd:g4 n S K (mO A.fB) (A.hg.map pf++P.map pf) [] A.fI x
 iA:∀f∈A.hg,K<f.p8
theorem qc.l_{K:Int}{P:E gm}{A:eZ}(h:qc n S K P A x){j:Nat}(hi:j<n)(o:S+10300<=4294836223){v:d3×E (E Int)×E gP×Int}(ab:v.2.2.2≠0\/(v.2.2.2=0/\uE n (S+10300) K j (mO A.fB) (A.hg.map pf++P.map pf) A.fI x v.1 v.2.1 v.2.2.1)):de (uO ⟨A⟩ j v.1 v.2.1 v.2.2.1 v.2.2.2) λv=>∃ai,g5 x ai/\qc n (S+10300) K P v.2.eC ai:=by
 have q:=h.gd.kV;rcases ab with ab|⟨ab,i,k,ai,l,m⟩
 .unfold uO;rw[show(v.2.2.2 !=0)=T by simpa using ab,c6];exact dg.2 ⟨x,g5.rfl',h.s,h.t_,h.gd.mono I o,h.iA⟩
 .rw[ab];refine(adz h.s hi (by rw[h.t_];exact m) i k).mono λv ab=>?_
  have⟨_,g,a,_,_,_,b,d⟩:=ab;rw[h.t_]at a b;rw[a]at d;exact⟨ai,l,g,a,d,λf p=>(b f p).elim (h.iA f) id⟩
theorem amw{A:eZ}(h:iC n S A x)(av:S+10600000<=4294836223)(ax:A.fg+1<=100000):de (I4 ⟨A⟩) λv=>v.1=0/\v.2.eC.fg=A.fg+1/\∃ai,g5 x ai/\iC n (S+10600000) v.2.eC ai:=by
 have cR:=h.gd.jo;have aK:=h.gd.kL;have aJ:=h.gd.kV;unfold I4;simp only;rw[dr dd,dm];refine(jF A.hg A.fg h.s.qX.1 A rfl rfl).bind λi ar=>?_
 have⟨aL,aE,ah,Q⟩:=ar;have aD:qc n (S+10300*((0:Nat):Int)) A.fg i.1 {A with hg:=i.2} x:=by
  refine⟨⟨h.s.nt,h.s.mq,h.s.pP,⟨aE,λf m=>h.s.qX.2 f (Q f m).1⟩,h.s.vw,h.s.jM⟩,rfl,?_,λf m=>(Q f m).2⟩;refine(h.gd.y2 (λf m=>?_)<|xM _).mono I I;rcases gq.1 m with m|m
  .obtain⟨q,t,rfl⟩:=hT.1 m;exact .inl<|hT.2 ⟨q,(Q q t).1,rfl⟩
  .obtain⟨q,t,rfl⟩:=hT.1 m;exact .inl<|hT.2 ⟨q,(ah q t).1,rfl⟩
 refine de.bind (u:=λl=>∃ai,g5 x ai/\qc n (S+10300*1024) A.fg i.1 ⟨l.1,l.2.2.2.2.2.2,l.2.1,l.2.2.1,l.2.2.2.1,l.2.2.2.2.1,l.2.2.2.2.2.1⟩ ai) (hk (λa=>∃g:Nat,a.1=(g:Int)/\g<=F i.1/\∃ai,g5 x ai/\qc n (S+10300*g) A.fg i.1 {a.2.1 with fB:=a.2.2} ai) (λa=>((F i.1:Int)-a.1).toNat) (λa d=>?_) ⟨0,rfl,I,x,g5.rfl',aD⟩) λaj ap=>?_
 .have⟨N,eH,m_⟩:=a;have⟨g,u,af,aS,s,b⟩:=d;simp only at u b;subst u;unfold V8 I6;simp only;by_cases o:g<F i.1
  .rw[dO,dz o,c6,et o,cI,e7 I];have a1:=fi o;obtain⟨f,ak⟩:∃f,f=i.1[g]:=⟨_,rfl⟩;rw[<-ak]at a1⊢;have⟨al,am⟩:=ah f a1;have aI:=h.s.qX.2 f al;have ae:pf f∈(eH.hg.map pf++i.1.map pf):=tk _ (hT.2 ⟨f,a1,rfl⟩);have C:f.c3.toNat<n:=(b.gd.nV _ ae).1;have ab:f.c3=(f.c3.toNat:Int):=I;obtain⟨j,ad⟩:∃j,j=f.c3.toNat:=⟨_,rfl⟩;rw[<-ad]at C ab;have az:F eH.hU=n:=b.s.pP;have aA:F m_=n:=b.s.nt;have aG:eH.fg=A.fg:=b.t_;have y:∀ai,g5 aS ai->∀k:eZ,qc n (S+10300*g+10300) A.fg i.1 k ai->de (B (dV (((g+1:Nat):Int),(⟨k.fg,[],k.eg,k.hU,k.hg,k.jr,k.fI⟩:eZ),k.fB)):X ((Int×eZ×(E d3))⊕(Int×(E<|E Bool)×(E Bool)×(E gm)×(E Int)×(E gK)×(E d3)))) λa=>(∃ao,a=.inl ao/\(∃g:Nat,ao.1=(g:Int)/\g<=F i.1/\∃ai,g5 x ai/\qc n (S+10300*g) A.fg i.1 {ao.2.1 with fB:=ao.2.2} ai)/\((F i.1:Int)-ao.1).toNat<((F i.1:Int)-(g:Int)).toNat)\/∃l,a=.inr l/\∃ai,g5 x ai/\qc n (S+10300*1024) A.fg i.1 ⟨l.1,l.2.2.2.2.2.2,l.2.1,l.2.2.1,l.2.2.2.1,l.2.2.2.2.1,l.2.2.2.2.2.1⟩ ai:=λai aC k au=>by refine dg.2<|.inl ⟨_,rfl,⟨g+1,rfl,I,ai,s.trans aC,?_⟩,ew⟩;rwa[(dd:S+10300*((g+1:Nat):Int)=S+10300*g+10300)]
   rw[ab,et I,cI];refine ep.2 ⟨λ_=>?_,λ_=>?_⟩
   .exact y aS g5.rfl' {eH with fB:=m_} ⟨b.s,b.t_,b.gd.mono I I,b.iA⟩
   .simp only[cQ.cL];rw[et I,cI,gz,gx,e6 I,cI];rw[<-vQ I];refine de.bind (show de (Dg (mO m_ j) eH.fg f.Bytes _) _ by rw[aG];exact amM b.gd C I ae ad.symm am _) λaF D=>?_
    refine de.bind (b.l_ C I D) λaH K=>?_
    have⟨ai,aC,au⟩:=K;exact y ai aC _ au
  .rw[dO,dr o,dm];refine dg.2<|.inr ⟨_,rfl,aS,s,?_⟩;exact⟨b.s,b.t_,b.gd.mono I I,b.iA⟩
 .have⟨y4,N,ag⟩:=ap;refine de.bind (u:=λl=>∃ai,g5 x ai/\qc n (S+10300*1024+10300*4) A.fg i.1 ⟨l.1,l.2.2.2.2.2.2,l.2.1,l.2.2.1,l.2.2.2.1,l.2.2.2.2.1,l.2.2.2.2.2.1⟩ ai) (hk (λa=>∃g:Nat,a.1=(g:Int)/\g<=n/\∃ai,g5 x ai/\qc n (S+10300*1024+10300*g) A.fg i.1 ⟨a.2.1,a.2.2.2.2.2.2.2,a.2.2.1,a.2.2.2.1,a.2.2.2.2.1,a.2.2.2.2.2.1,a.2.2.2.2.2.2.1⟩ ai) (λa=>((n:Int)-a.1).toNat) (λa d=>?_) ⟨0,rfl,I,y4,N,by simpa using ag⟩) λz aq=>?_
  .have⟨N,P,aB,aa,an,dK,fN,m_⟩:=a;have⟨g,u,af,aS,s,b⟩:=d;simp only at u b;subst u;have ay:F aj.2.2.2.2.2.2=n:=ag.s.nt;unfold V9 I7;simp only[ay];have az:F aa=n:=b.s.pP;have aA:F m_=n:=b.s.nt;have aG:P=A.fg:=b.t_;by_cases o:g<n
   .rw[dO,dz o,c6,e7 I,et I,cI];have y:∀ai,g5 aS ai->∀k:eZ,qc n (S+10300*1024+10300*g+10300) A.fg i.1 k ai->de (B (dV (((g+1:Nat):Int),k.fg,k.eg,k.hU,k.hg,k.jr,k.fI,k.fB)):X ((Int×Int×(E<|E Bool)×(E Bool)×(E gm)×(E Int)×(E gK)×(E d3))⊕(Int×(E<|E Bool)×(E Bool)×(E gm)×(E Int)×(E gK)×(E d3)))) λa=>(∃ao,a=.inl ao/\(∃g:Nat,ao.1=(g:Int)/\g<=n/\∃ai,g5 x ai/\qc n (S+10300*1024+10300*g) A.fg i.1 ⟨ao.2.1,ao.2.2.2.2.2.2.2,ao.2.2.1,ao.2.2.2.1,ao.2.2.2.2.1,ao.2.2.2.2.2.1,ao.2.2.2.2.2.2.1⟩ ai)/\((n:Int)-ao.1).toNat<((n:Int)-(g:Int)).toNat)\/∃l,a=.inr l/\∃ai,g5 x ai/\qc n (S+10300*1024+10300*4) A.fg i.1 ⟨l.1,l.2.2.2.2.2.2,l.2.1,l.2.2.1,l.2.2.2.1,l.2.2.2.2.1,l.2.2.2.2.2.1⟩ ai:=λai aC k au=>by refine dg.2<|.inl ⟨_,rfl,⟨g+1,rfl,I,ai,s.trans aC,?_⟩,ew⟩;rwa[(dd:S+10300*1024+10300*((g+1:Nat):Int)=S+10300*1024+10300*g+10300)]
    refine ep.2 ⟨λ_=>y aS g5.rfl' ⟨P,m_,aB,aa,an,dK,fN⟩ ⟨b.s,b.t_,b.gd.mono I I,b.iA⟩,λ_=>?_⟩;simp only[cQ.cL];rw[et I,cI,gz,gx,e6 I,cI];rw[<-vQ I];refine de.bind (show de (Dh (mO m_ g) P _) _ by rw[aG];exact amP b.gd o I _) λaF D=>?_
    refine de.bind (b.l_ o I<|.inr D) λaH K=>?_
    have⟨ai,aC,au⟩:=K;exact y ai aC _ au
   .rw[dO,dr o,dm];refine dg.2<|.inr ⟨_,rfl,aS,s,?_⟩;exact⟨b.s,b.t_,b.gd.mono I I,b.iA⟩
  .have⟨aS,aw,p⟩:=aq;have aG:z.1=A.fg:=p.t_;refine dg.2 ⟨rfl,?_,aS,aw,⟨p.s.nt,p.s.mq,p.s.pP,p.s.qX,p.s.vw,p.s.jM⟩,?_⟩
   .show U W (z.1+1)=_;rw[aG,fx I I]
   .show g4 n _ (U W<|z.1+1) _ _ _ _ _;rw[aG,fx I I];refine(p.gd.asq ax λf m=>⟨r9 _ m,?_⟩).mono I av;obtain⟨q,t,rfl⟩:=hT.1 m;exact p.iA q t
def iC.g8(h:iC n S A x){m:Nat}(aw:m<F A.fB):A.fB[m].gS=g8 m:=by have:=(h.gd.hA m (by rw[<-h.s.nt];exact aw)).ok.g8;rwa[vQ aw]at this
theorem aam(s:E d3)(cN:F s<=100)(d:∀g (af:g<F s),s[g].gS=g8 g)(m:Nat):Dd s (fF m)=B (if m<F s then(m:Int)else-1):=by
 have e:∀g (af:g<F s),I2 s[g] (fF m)=B (decide (g=m)):=λg af=>by
  unfold I2;rw[d g af];by_cases C:g=m
  .rw[C];simp[g8]
  .rw[show((g8 g).h1==fF m)=Z from hl λan=>C<|vy an,dr C]
 unfold Dd Qf;have G:∀g,g<F s->decide (g=m)=Z->ym s (fF m) (g:Int)=B (.inl ((g+1:Nat):Int)):=λg af C=>by unfold ym;rw[dO,dz af,c6,et af,cI,e g af,cI,C,dm,e7 I]
 have a:∀g,g<F s->decide (g=m)=T->ym s (fF m) (g:Int)=B (.inr<|.inr (g:Int)):=λg af C=>by unfold ym;rw[dO,dz af,c6,et af,cI,e g af,cI,C,c6]
 have b:ym s (fF m) (F s:Int)=B (.inr<|.inl ()):=by unfold ym;rw[dO,dr I];rfl
 rcases F0 (λg=>decide (g=m)) G a b with⟨C,au⟩|⟨g,af,aC,_,C⟩
 .rw[C,dA λan=>by have:=au m an;simp at this];rfl
 .have:=f8 aC;subst this;rw[C,dE af];rfl
theorem MZ(h:iC n S A x)(G:1<=n):z9 A=B T:=by
 have cR:=h.gd.jo;have N:=h.gd.kL;have aj:=h.s;have b:=aj.nt;have m:=aj.qX;have D:=aj.vw;have K:=aj.jM;have d:=aj.mq;have o:=aj.pP;have p:dq (IV A) 0=B ():=by
  refine nr (Q:=F A.fB) (λg af=>?_) ?_
  .unfold IV;rw[dO,dz af,c6,et af,cI,<-vQ af,BK cR I (h.gd.hA g I).ok,cI,c6,(h.gd.hA g I).ok.g8,(J:(g8 g).h1=fF g),aam _ I (λg af=>h.g8 af),cI,dE af,e7 I];simp
  .unfold IV;rw[dO,dr I,dm]
 have q:dq (IW A) 0=B ():=by
  refine nr (Q:=F A.eg) (λg af=>?_) ?_
  .have⟨t,u⟩:=d.2 g af;unfold IW;rw[dO,dz af,c6,et af,cI,t,b,e7 I];have:di A.eg[g] (g:Int)=B Z:=by rw[Mz];exact u
   rw[this];simp
  .unfold IW;rw[dO,dr I,dm]
 have s:dq (IX A) 0=B ():=by
  refine nr (Q:=F A.hg) (λg af=>?_) ?_
  .have⟨i,j,k,a,y,_,z,_⟩:=h.gd.nV (pf A.hg[g]) (hT.2 ⟨_,fi af,rfl⟩);have C:=m.2 _ (fi af);have l:=K8 cR z (h.gd.h.ok a y).1.2.2.2;simp only[pf]at i j k l;unfold IX;rw[dO,dz af,c6,et af,cI,dr I,dr I,dr I,dr I,dr I,e7 I];rfl
  .unfold IX;rw[dO,dr I,dm]
 unfold z9;rw[dr I,dr I,dr I,dr I,d.1,b,o,dr I,dr I,dr I,p,q,s];simp
theorem BF(h:iC n S A x):z_ A=B ⟨A⟩:=by
 have cR:=h.gd.jo;have aj:=h.s;have t:=aj.nt;have u:=aj.qX;have y:=aj.vw;have z:=aj.jM;have j:=aj.mq;have C:=aj.pP;have k:dq (IY A) (0,[])=B A.fB:=by
  refine Bp A.fB (λg af=>?_) ?_
  .unfold IY Pl;simp only[cQ.cL,iV];rw[dO,dz af,c6,et af,cI,<-vQ af,(GG cR I (h.gd.hA g I).ok).1,cI,cI,he _ _ I wG,cI,e7 I]
  .unfold IY;simp only;rw[dO,dr I,dm]
 have b:∀r:E Bool,F r<=100->WE r=B r/\Er r=B r:=λr ay=>by unfold WE Er;exact⟨qq o1 o1,qq o1 o1⟩
 have l:dq (IZ A) (0,[])=B A.eg:=by
  refine Bp A.eg (λg af=>?_) ?_
  .have:=(j.2 g af).1;unfold IZ;simp only[cQ.cL,iV];rw[dO,dz af,c6,et af,cI,(b _ I).2,cI,he _ _ I wG,cI,e7 I]
  .unfold IZ;simp only;rw[dO,dr I,dm]
 have m:dq (I0 A) (0,[])=B A.hg:=by
  refine Bp A.hg (λg af=>?_) ?_
  .have⟨_,_,_,a,p,_,q,_⟩:=h.gd.nV (pf A.hg[g]) (hT.2 ⟨_,fi af,rfl⟩);have i:=K8 cR q (h.gd.h.ok a p).1.2.2.2;simp only[pf]at i;unfold I0;simp only[cQ.cL,iV];rw[dO,dz af,c6,et af,cI,(sM (s:=A.hg[g].Bytes) I).1,cI,he _ _ I wG,cI,e7 I]
  .unfold I0;simp only;rw[dO,dr I,dm]
 have o:dq (I1 A) (0,[])=B A.fI:=by
  refine Bp A.fI (λg af=>?_) ?_
  .have⟨d,s⟩:=h.gd.qv _ (fi af);unfold I1 Df;simp only[cQ.cL,iV];rw[dO,dz af,c6,et af,cI,L7 d,cI,(sM (s:=A.fI[g].hC.gA) I).1,cI,cI,he _ _ I wG,cI,e7 I]
  .unfold I1;simp only;rw[dO,dr I,dm]
 unfold z_;rw[k,l,m,o,(b A.hU I).2,(sM (s:=A.jr) I).2];rfl
theorem T3(h:iC n S A x)(G:1<=n){g:Nat}(af:g<=4000)(u:S+10600000*g<=4294836223)(ax:A.fg+g<=100000):de (ro A (g:Int)) λv=>v.2=0/\v.1.fg=A.fg+g/\∃ai,g5 x ai/\iC n (S+10600000*g) v.1 ai:=by
 unfold ro;rw[MZ h G,cI,c6,dr I,dr I,dm,dm,BF h,cI];refine de.bind (u:=λl=>l.1=A.fg+g/\∃ai,g5 x ai/\iC n (S+10600000*g) ⟨l.1,l.2.2.2.2.2.2,l.2.1,l.2.2.1,l.2.2.2.1,l.2.2.2.2.1,l.2.2.2.2.2.1⟩ ai) (hk (λa=>∃m:Nat,a.1=(m:Int)/\m<=g/\a.2.1.fg=A.fg+m/\∃ai,g5 x ai/\iC n (S+10600000*m) {a.2.1 with fB:=a.2.2} ai) (λa=>((g:Int)-a.1).toNat) (λa d=>?_) ⟨0,rfl,I,ew,x,g5.rfl',qe⟩) λl u=>dg.2 ef
 have⟨C,eH,m_⟩:=a;have⟨m,o,aw,j,aS,k,b⟩:=d;simp only at o j b;subst o;unfold wn;simp only;by_cases p:m<g
 .rw[dO,dz p,c6,e7 I];refine(amw b I (by show eH.fg+1<=_;omega)).bind λy t=>?_
  have⟨q,i,ai,s,z⟩:=t;have i:y.2.eC.fg=eH.fg+1:=i;rw[q];refine dg.2<|.inl ⟨_,rfl,⟨m+1,rfl,I,ew,ai,k.trans s,?_⟩,ew⟩;rwa[(dd:S+10600000*((m+1:Nat):Int)=S+10600000*m+10600000)]
 .rw[dO,dr p,dm];have:m=g:=I;subst this;exact dg.2<|.inr ⟨_,rfl,j,aS,k,b⟩
def iC.mono(h:iC n S A x){k:Int}(G:S<=k)(a:k<=4294836223):iC n k A x:=⟨h.s,h.gd.mono G a⟩
def atj:iw:=⟨jX,jX,0,0⟩
theorem TU(h:iC n S A x)(G:1<=n){g:Int}(af:g=2\/g=3\/g=4){t:Nat}(m:t<n){l d:Int}{on:Bool}{z:ee}{i:E Int}{q:kS}{a:iw}:wo A ⟨g,(t:Int),l,on,d,z,i,q,a⟩=B (if g≠3/\A.hU[t]?=B T then 11 else 0):=by
 have j:=h.s.nt;have k:=h.s.pP;have b:A.hU[t]?=B (A.hU[t]'I):=e6 I;unfold wo;rw[MZ h G];simp only[cI,c6];rw[dr (dd:¬g<1),dr (dd:¬g>10),hl (dd:¬g=10),dr (dd:¬(t:Int)<0),dr (dd:¬(t:Int)>=(F A.fB:Int)),hl (dd:¬g=1),et (s:=A.hU) I,b];simp only[dm,cI];cases A.hU[t]'I with
 |false=>simp
 |true=>rcases af with rfl|rfl|rfl<;>rfl
theorem ard(h:iC n S A x)(G:1<=n){t l:Nat}(j:t<n)(m:l<n)(k:t≠l){b:Int}{on:Bool}{z:ee}{i:E Int}{q:kS}{a:iw}:wo A ⟨1,(t:Int),(l:Int),on,b,z,i,q,a⟩=B 0:=by have d:=h.s.nt;have g:=h.s.pP;unfold wo;rw[MZ h G];simp only[cI,c6,(J:decide ((1:Int)<1)=Z),(J:decide ((1:Int)>10)=Z),(J:((1:Int)==10)=Z),beq_self_eq_true,dm];rw[dr dd,dr dd,dr dd,dr dd,hl dd,et (s:=A.hU) I];simp only[dm,cI];cases A.hU[t]'I<;>rfl
def LT{L:E (E Bool)}{g:E Bool}(aj:uW n {A with eg:=L,hU:=g}){t:Nat}(p:t<n){i:d3}{fr:E (E Int)}{b:E gP}{ai:fG}(h:g4 n S A.fg (fo (mO A.fB) t i) (A.hg.map pf) (fr.map λl=>(t,l)) (A.fI++b.map (qV A.fg t)) ai)(s:F fr<=10300)(q:F b<=10){a:pM}(d:a.A=(t:Int)):de (uN ⟨A⟩ a (fr,b,0,i,L,g)) λv=>v.2=0/\v.1.fg=A.fg/\iC n S v.1 ai:=by
 unfold uN z7;simp only[d];refine(adz (P:=[]) aj p qe s q).bind λv ab=>?_
 have⟨j,k,m,_,_,_,_,o⟩:=ab;rw[j];exact dg.2 ⟨rfl,m,k,by simpa using o⟩
def ai1{L:E (E Bool)}{d:E Bool}{i:d3}{fr:E (E Int)}{g:E gP}{a:pM}{e:Int}(b:e≠0):de (uN ⟨A⟩ a (fr,g,e,i,L,d)) λv=>v.2≠0:=by unfold uN z7 uO;simp only;rw[show(e !=0)=T by simpa using b];simp only[c6,cI,show(e !=0)=T by simpa using b];exact dg.2 b
theorem Mt(h:iC n S A x){t:Nat}(b:t<n){D:Type}(f:d3->X D):((di A.fB (t:Int)).bind λ_=>(A.fB[0+Int.toNat (t:Int)]?).bind f)=f (mO A.fB t):=by have a:=h.s.nt;rw[et I,cI,gz,gx,e6 I,cI,vQ I]
theorem ai2(h:iC n S A x)(G:1<=n){t l:Nat}(b:t<n)(m:l<n)(d:t≠l){p:Int}{on:Bool}{z:ee}{i:E Int}{q:kS}{j:iw}:de (n_ A ⟨1,(t:Int),(l:Int),on,p,z,i,q,j⟩) λv=>v.2=0/\v.1.fg=A.fg/\iC n S v.1 x:=by
 have k:=h.s.nt;have a:=h.s.mq;have ay:=(a.2 t I).1;unfold n_;rw[ard h G b m d,cI,BF h,cI];simp only[(J:((0:Int) !=0)=Z),(J:((1:Int)==10)=Z),dm,beq_self_eq_true,c6,cQ.cL];rw[Mt h b,et (s:=A.eg) I,cI,gz,gx,e6 (dd:t<F A.eg),cI,et (s:=A.eg[t]) I,cI,gz];have o:uW n {A with eg:=A.eg.set t<|A.eg[t].set l on,hU:=A.hU}:=⟨k,⟨by simpa using a.1,λg af=>?_⟩,h.s.pP,h.s.qX,h.s.vw,h.s.jM⟩
 .exact LT (i:=mO A.fB t) (fr:=[]) (b:=[]) (ai:=x) o b (by rw[Uy];simpa using h.gd) dh dh rfl
 simp only[sb]at af;simp only[List.getElem_set];split
 next C=>subst C;exact⟨by simpa using ay,by rw[List.getElem?_set_ne (l5 d)];exact(a.2 t af).2⟩
 .exact a.2 g af
theorem ai4(h:iC n S A x)(G:1<=n){t:Nat}(a:t<n){v:Int}(g:S+131072<=4294836223)(ab:iK v)(d:x.eH<v){l:Int}{on:Bool}{z:ee}{i:E Int}{q:kS}{b:iw}:de (n_ A ⟨2,(t:Int),l,on,v,z,i,q,b⟩) λw=>w.2≠0\/(w.2=0/\w.1.fg=A.fg/\∃ai,ai.L=x.L/\ai.eH=v/\iC n (S+131072) w.1 ai):=by
 unfold n_;rw[TU h G dd a,cI];by_cases C:(2:Int)≠3/\A.hU[t]?=B T
 .rw[dE C];exact dg.2 dd
 rw[dA C];simp only[(J:((0:Int) !=0)=Z),dm,BF h,cI,(J:((2:Int)==10)=Z),(J:((2:Int)==1)=Z),beq_self_eq_true,c6,cQ.cL];rw[Mt h a,show U e9 v=v by rw[uk];have:=ab.1;have:=ab.2;omega];have⟨k,e,ai,aS,aN,a2⟩:=amN h.gd a g ab d;rw[e,cI];exact(LT (ai:=ai) h.s a (by simpa using a2) dh dh rfl).mono λw j=>.inr ef
theorem ai6(h:iC n S A x)(G:1<=n){t:Nat}(d:t<n){v:Int}{l:Int}{on:Bool}{z:ee}{i:E Int}{q:kS}{g:iw}:de (n_ A ⟨3,(t:Int),l,on,v,z,i,q,g⟩) λw=>w.2=0/\w.1.fg=A.fg/\iC n S w.1 x:=by
 have m:=h.s.pP;unfold n_;rw[TU h G dd d,cI,dA dd];simp only[(J:((0:Int) !=0)=Z),dm,BF h,cI,(J:((3:Int)==10)=Z),(J:((3:Int)==1)=Z),(J:((3:Int)==2)=Z),beq_self_eq_true,c6,cQ.cL];have p:∀a,uW n {A with hU:=A.hU.set t a}:=λa=>⟨h.s.nt,h.s.mq,by simpa using m,h.s.qX,h.s.vw,h.s.jM⟩
 have j:∀b,g4 n S A.fg (fo (mO A.fB) t b) (A.hg.map pf) [] A.fI x->de (z8 ⟨A⟩ ⟨3,(t:Int),l,on,v,z,i,q,g⟩ (0,b)) λw=>w.2=0/\w.1.fg=A.fg/\iC n S w.1 x:=λb o=>by unfold z8;simp only[cQ.cL];rw[et I,cI,gz,gx,e6 I,cI];exact LT (ai:=x) ef d cU dh dh rfl
 have k:=j (mO A.fB t) (by rw[Uy];exact h.gd);rw[Mt h d,et I,cI,gz,gx,e6 I,cI];refine ep.2 ⟨λ_=>ep.2 ⟨λ_=>k,λ_=>?_⟩,λ_=>k⟩;have⟨b,e,a2⟩:=amQ h.gd d;rw[e,cI];exact j b a2
theorem ai5(h:iC n S A x)(G:1<=n){t l:Nat}(a:t<n)(k:l<n){z:ee}(Y:lI t l z)(g:F x.L<25)(j:S+10300<=4294836223){v c:Int}{on:Bool}{i:E Int}{q:kS}{d:iw}:de (n_ A ⟨4,(t:Int),c,on,v,z,i,q,d⟩) λw=>w.2≠0\/(w.2=0/\w.1.fg=A.fg/\∃ai,ai.L=x.L++[⟨t,(mO A.fB t).ga,l,z⟩]/\ai.eH=x.eH/\iC n (S+10300) w.1 ai):=by
 unfold n_;rw[TU h G dd a,cI];by_cases C:(4:Int)≠3/\A.hU[t]?=B T
 .rw[dE C];exact dg.2 dd
 rw[dA C];simp only[(J:((0:Int) !=0)=Z),dm,BF h,cI,(J:((4:Int)==10)=Z),(J:((4:Int)==1)=Z),(J:((4:Int)==2)=Z),(J:((4:Int)==3)=Z),beq_self_eq_true,c6,cQ.cL];rw[Mt h a];refine(amO h.gd a j k Y g).bind λw b=>?_
 rcases b with b|⟨e,m,o,ai,aS,aN,a2⟩
 .exact(ai1 b).mono λ_ an=>.inl an
 .rw[e];exact(LT (ai:=ai) h.s a a2 m o rfl).mono λw b=>.inr ef
theorem ai3(h:iC n S A x)(G:1<=n){i:E Int}(d:fS i){t l v:Int}{on:Bool}{z:ee}{q:kS}{a:iw}:de (n_ A ⟨10,t,l,on,v,z,i,q,a⟩) λw=>w.2≠0\/(w.2=0/\w.1.fg=A.fg/\iC n S w.1 x):=by
 have b:=h.s.vw;have r:wo A ⟨10,t,l,on,v,z,i,q,a⟩=B (if(F i:Int)>65536-F A.jr then 10 else 0):=by
  unfold wo;rw[MZ h G];simp only[cI,c6,(J:decide ((10:Int)<1)=Z),(J:decide ((10:Int)>10)=Z),beq_self_eq_true,dm];rw[fx I I];by_cases C:(F i:Int)>65536-(F A.jr:Int)
  .rw[dz C,dE C];rfl
  .rw[dr C,dA C];rfl
 unfold n_;rw[r,cI];by_cases C:(F i:Int)>65536-(F A.jr:Int)
 .rw[dE C];exact dg.2 dd
 rw[dA C];simp only[(J:((0:Int) !=0)=Z),dm,BF h,cI,beq_self_eq_true,c6,cQ.cL,iV];rw[he _ _ I I,cI];unfold z7;exact dg.2<|.inr ⟨rfl,rfl,⟨h.s.nt,h.s.mq,h.s.pP,h.s.qX,⟨agK,hY b.2 d⟩,h.s.jM⟩,h.gd⟩
structure lN(a:iD):Prop where
 rI:0<=a.at_
 FC:a.at_<=F a.l
 len:F a.l<=400
theorem asl(s:E Int):∃a,z2 s=B a/\lN a:=by
 unfold z2 IF;by_cases h:(F s:Int)>400
 .rw[dz h,pr I I I];exact⟨_,rfl,dh,dh,fv⟩
 .rw[dr h];exact⟨_,rfl,dh,dh,fv⟩
theorem aed(a n:Int)(G:1<=n)(b:n<=4611686018427387904):hc a n<n/\ -n<hc a n:=⟨HR a lB,Int.lt_tmod_of_pos a lB⟩
theorem r5{a:iD}(h:lN a)(n:Int)(G:1<=n)(j:n<=4611686018427387904):de (pC a n) λv=>0<=v.1/\v.1<n/\lN {a with at_:=v.2}:=by
 unfold pC IH;have g:=h.rI;have k:=h.FC;have l:=h.len;refine ep.2 ⟨λ_=>dg.2 ⟨nK _,by show 0<n;omega,h⟩,λb=>?_⟩;have b:a.at_<F a.l:=by have:=of_decide_eq_false b;omega
 rw[F8 g I];simp only[cI,show decide (n≠0)=T by simp;omega,c6];have⟨m,o⟩:=aed (a.l[a.at_.toNat]'I) n G j;generalize hc (a.l[a.at_.toNat]'I) n=C at*;have i:U W (a.at_+1)=a.at_+1:=fx I I;have d:lN {a with at_:=a.at_+1}:=⟨kQ,kQ,h.len⟩;rw[i];refine ep.2 ⟨λap=>?_,λap=>?_⟩
 .have ap:=f8 ap;rw[fx I I];exact dg.2 ⟨ew,ew,d⟩
 .have ap:=of_decide_eq_false ap;exact dg.2 ⟨ew,ew,d⟩
theorem ask(a n:Int)(G:1<=n)(b:n<=4611686018427387904):de (ID a n) λv=>0<=v/\v<n:=by
 unfold ID IE;have⟨d,g⟩:=aed a n G b;generalize hc a n=C at*;rw[show decide (n≠0)=T by simp;omega];refine ep.2 ⟨λ_=>ep.2 ⟨λap=>?_,λap=>?_⟩,nofun⟩
 .have ap:=f8 ap;rw[fx I I];exact dg.2 ⟨I,I⟩
 .have ap:=of_decide_eq_false ap;exact dg.2 ⟨I,I⟩
def ae2{a:iD}(h:lN a)(n:Int)(G:1<=n)(b:n<=4611686018427387904):de (C2 a n) λv=>lN {a with at_:=v.2}:=by unfold C2;exact(r5 h n G b).bind λv ab=>dg.2 ab.2.2
theorem asj{j:iD}(h:lN j)(n:Nat)(cR:n<=100000):de (IG j n) λv=>fS v.1/\F v.1=n/\lN {j with at_:=v.2}:=by
 unfold IG;refine(r5 h 256 I I).bind λy G=>?_
 refine(r5 G.2.2 256 I I).bind λz o=>?_
 refine(r5 o.2.2 256 I I).bind λA t=>?_
 rw[vM n cR,cI];refine de.bind (u:=λl=>fS l/\F l=n) (hk (λa=>∃g:Nat,a.1=(g:Int)/\g<=n/\fS a.2/\F a.2=n) (λa=>((n:Int)-a.1).toNat) (λa d=>?_) ⟨0,rfl,I,λan N=>by rw[(List.mem_replicate.1 N).2];omega,dh⟩) λl u=>dg.2 cU
 have⟨x,s⟩:=a;have⟨g,k,af,b,i⟩:=d;simp only at k b i;subst k;unfold VX;simp only;by_cases m:g<n
 .have p:=OE (a:=(g:Int)) 5 I;have q:=HR (g:Int) (dd:(0:Int)<5);rw[dO,dz m,c6,dz (show(0:Int)<=hc (g:Int) 5/\hc (g:Int) 5<5 from⟨p,q⟩)];simp only[c6,cQ.cL,gx,gz];rw[et I,cI,e6 I,cI,e7 I];exact dg.2<|.inl ⟨_,rfl,⟨g+1,rfl,I,b.set _ (ate _),by simp only[sb];exact i⟩,ew⟩
 .rw[dO,dr m,dm];exact dg.2<|.inr ⟨_,rfl,b,i⟩
def NY{t:Nat}(a:t<4):tG (t:Int)=B (fk t)/\KZ (t:Int)=B (g8 t)/\EB (t:Int)=B (fF t):=kB (z:=λt=>tG (t:Int)=B (fk t)/\KZ (t:Int)=B (g8 t)/\EB (t:Int)=B (fF t)) ⟨J,J,J⟩ ⟨J,J,J⟩ ⟨J,J,J⟩ ⟨J,J,J⟩ a
theorem asr{n:Nat}(cR:n<=4):AB (n:Int)=B ((jG n).map g8):=by
 unfold AB;refine dS (ow (λg=>((jG g).map g8,(g:Int))) n (λg af=>?_) ?_) rfl
 .unfold Qo;simp only;rw[dO,dz af,c6,(NY (dd:g<4)).2.1,cI,he _ _ I oe,cI,e7 I];simp[cQ.cL,VE]
 .unfold Qo;simp only;rw[dO,dr I,dm]
def H3(n:Nat)(s:E (E Int)):Prop:=(∀e∈s,∃t l:Nat,e=[(t:Int),(l:Int)]/\t<n/\l<n/\t≠l)/\F s<=100
theorem ass{b:iD}(h:lN b){n:Nat}(G:1<=n)(cR:n<=4):de (Ez b (n:Int)) λv=>H3 n v.1/\lN {b with at_:=v.2}:=by
 unfold Ez;refine de.bind (u:=λv=>H3 n v.1/\lN {b with at_:=v.2}) (hk (λa=>∃g:Nat,a.2.1=(g:Int)/\1<=g/\g<=n/\(∀e∈a.1,∃t l:Nat,e=[(t:Int),(l:Int)]/\t<n/\l<n/\t≠l)/\F a.1<=5*g/\lN {b with at_:=a.2.2}) (λa=>((n:Int)-a.2.1).toNat) (λa d=>?_) ⟨1,rfl,I,G,dh,dh,h⟩) λl ad=>dg.2 ad
 have⟨s,ah,P⟩:=a;have⟨g,D,ae,af,q,Q,u⟩:=d;simp only at D q Q u;subst D;unfold WM;simp only;by_cases K:g<n
 .rw[dO,dz K,c6,e7 I];refine(r5 u (g:Int) I I).bind λaj aa=>?_
  refine de.bind (u:=λv=>(∀e∈v.1,∃t l:Nat,e=[(t:Int),(l:Int)]/\t<n/\l<n/\t≠l)/\F v.1<=5*g+g/\lN {b with at_:=v.2}) (hk (λa=>∃m:Nat,a.2.1=(m:Int)/\m<=g/\(∀e∈a.1,∃t l:Nat,e=[(t:Int),(l:Int)]/\t<n/\l<n/\t≠l)/\F a.1<=5*g+m/\lN {b with at_:=a.2.2}) (λa=>((g:Int)-a.2.1).toNat) (λa d=>?_) ⟨0,rfl,I,q,ew,aa.2.2⟩) λv ab=>dg.2<|.inl ⟨_,rfl,⟨g+1,rfl,I,I,ab.1,by have:=ab.2.1;simp only;omega,ab.2.2⟩,ew⟩
  have⟨s,ag,P⟩:=a;have⟨m,A,aw,j,S,k⟩:=d;simp only at A j S k;subst A;unfold WN EA;simp only;by_cases C:m<g
  .rw[dO,dz C,c6,e7 I];have x:∀o p,(∀e∈o,∃t l:Nat,e=[(t:Int),(l:Int)]/\t<n/\l<n/\t≠l)->F o<=F s+1->lN {b with at_:=p}->de (B (dV (o,((m+1:Nat):Int),p)):X (((E<|E Int)×Int×Int)⊕((E<|E Int)×Int))) λa=>(∃ao,a=.inl ao/\(∃m:Nat,ao.2.1=(m:Int)/\m<=g/\(∀e∈ao.1,∃t l:Nat,e=[(t:Int),(l:Int)]/\t<n/\l<n/\t≠l)/\F ao.1<=5*g+m/\lN {b with at_:=ao.2.2})/\((g:Int)-ao.2.1).toNat<((g:Int)-(m:Int)).toNat)\/∃v,a=.inr v/\(∀e∈v.1,∃t l:Nat,e=[(t:Int),(l:Int)]/\t<n/\l<n/\t≠l)/\F v.1<=5*g+g/\lN {b with at_:=v.2}:=λo p aG aD aQ=>dg.2 (.inl ⟨_,rfl,⟨m+1,rfl,I,aG,ew,aQ⟩,ew⟩)
   have N:∀e∈s++[[(m:Int),(g:Int)]],∃t l:Nat,e=[(t:Int),(l:Int)]/\t<n/\l<n/\t≠l:=λe i=>by
    rcases gq.1 i with i|i
    .exact j e i
    .rw[gO.1 i];exact⟨m,g,rfl,I,I,I⟩
   have y:ej 16 s (cQ.cL .c_ [[(m:Int),(g:Int)]])=B (s++[[(m:Int),(g:Int)]]):=he _ _ I oe;refine ep.2 ⟨λ_=>?_,λ_=>?_⟩
   .rw[y,cI];exact x _ _ N dh k
   .refine(ae2 k 4 I I).bind λai z=>?_
    refine ep.2 ⟨λ_=>?_,λ_=>x _ _ j I z⟩;rw[y,cI];exact x _ _ N dh z
  .rw[dO,dr C,dm];exact dg.2<|.inr ⟨_,rfl,j,ew,k⟩
 .rw[dO,dr K,dm];exact dg.2<|.inr ⟨_,rfl,⟨q,ew⟩,u⟩
theorem ast{b:iD}(h:lN b){t l:Nat}(ab:t<4):de (AD b (t:Int) (fk l) 150) λv=>lI t l v.1/\lN {b with at_:=v.2}:=by
 unfold AD;refine(r5 h 3 I I).bind λj G=>?_
 have aD:∃a,di ([17,17,59]:E Int) j.1=B a/\(a=17\/a=59):=by have⟨aC,au,_⟩:=G;rcases(by omega:j.1=0\/j.1=1\/j.1=2)with C|C|C<;>rw[C]<;>exact⟨_,rfl,dh⟩
 have⟨a,aD,d⟩:=aD;rw[aD,cI];refine(r5 G.2.2 3 I I).bind λk y=>?_
 have aH:∃o,di ([64,255,12]:E Int) k.1=B o/\1<=o/\o<=255:=by have⟨aC,au,_⟩:=y;rcases(by omega:k.1=0\/k.1=1\/k.1=2)with C|C|C<;>rw[C]<;>exact⟨_,rfl,h8,h8⟩
 have⟨o,aH,ad⟩:=aH;rw[aH,cI,(NY ab).1,cI];refine(r5 y.2.2 (U W<|150+1) h8 h8).bind λs q=>?_
 have⟨aC,au,q⟩:=q;have au:s.1<151:=au;obtain⟨g,N⟩:∃g:Nat,s.1=(g:Int):=⟨s.1.toNat,I⟩;rw[N];refine(asj q g I).bind λae aa=>?_
 have⟨u,af,P⟩:=aa;have z:∀m c i,lN {b with at_:=m}->0<=c/\c<=255->0<=i/\i<=1048575->de (ED a b o (fk t) (fk l) ae (m,c,i)) λv=>lI t l v.1/\lN {b with at_:=v.2}:=λm c i A D K=>by
  unfold ED K0;rcases d with rfl|rfl
  .simp only[beq_self_eq_true,c6];refine(r5 A 65536 I I).bind λag Q=>dg.2 ⟨⟨rfl,rfl,D,K,.inl rfl,ad,λ_=>⟨rfl,N7 _⟩,λC=>absurd C (by decide:¬(17:Int)=59),u,ew⟩,Q.2.2⟩
  .exact dg.2 ⟨⟨rfl,rfl,D,K,.inr rfl,ad,λC=>absurd C (by decide:¬(59:Int)=17),λ_=>cU,u,ew⟩,A⟩
 refine(ae2 P 3 I I).bind λah x=>?_
 refine ep.2 ⟨λ_=>?_,λ_=>z _ 0 0 x I I⟩;refine(r5 x 256 I I).bind λai S=>?_
 refine(r5 S.2.2 1048576 I I).bind λaj p=>?_
 exact z _ _ _ p.2.2 Xv (by rw[uk];have:=p.1;have:=p.2.1;omega)
def y4:fG:=⟨λ_=>False,λ_ _=>0,λ_ _=>M,λ_=>T,λ_=>0,λ_ _=>.lw,λ_ _=>0,[],4,λ_=>[]⟩
def m_(n:Nat):E d3:=(jG n).map λg=>pY g 0 ((g:Int)+1) 0
def Gv(n:Nat):eZ:=⟨0,m_ n,fe n (fe n Z),fe n Z,[],[],[]⟩
def GB{n g:Nat}(af:g<n):mO (m_ n) g=pY g 0 ((g:Int)+1) 0:=by rw[vQ (by simpa[m_]using af)];simp[m_]
theorem amx{n:Nat}(G:1<=n)(cR:n<=4):iC n 0 (Gv n) y4:=by
 refine⟨⟨by simp[Gv,m_],⟨Lf,λg af=>?_⟩,Lf,Lf,⟨Lf,λan N=>ry⟩,Lf⟩,?_⟩
 .simp only[Gv,List.length_replicate]at af;simp only[Gv,List.getElem_replicate];exact⟨dh,by simp[af]⟩
 .show g4 n 0 0 (mO<|m_ n) [] [] [] y4;refine⟨cR,⟨I,I⟩,⟨I,I⟩,λj hi=>?_,⟨λ_ h=>xO h,λ_ _ h=>xO h,λj m hi aw C=>?_,λ_ _ h=>xO h,λ_ _ h=>xO h,λ_ _ _ h=>xO h,λr q ay aj=>?_,λ_ _ h=>xO h,λ_ h=>xO h⟩,λ_ h=>o0,λ_ h=>o0,⟨λ_ h=>o0,OF⟩,⟨λ_ h=>o0,OF⟩,ny _,λ_ h=>o0⟩
  .have ok:=abI cR hi (K:=0) (v:=(j:Int)+1) (a:=0) I Xi I;rw[GB hi];refine⟨ok,?_,⟨nK _,nK _⟩,?_,?_,?_,λ_=>rfl,λh=>o0,nK _,λ_ h=>o0,rfl,⟨λ_ h=>o0,OF,ny _⟩,λ_ h=>o0⟩
   .show(0:Int)+16<=(if 1099511627776<(0:Int)+16 then 1099511627776 else(0:Int)+16);rw[dA I];omega
   .show(0:Int)<=0/\(0:Int)+65536<=0+65536;omega
   .show(0:Int)+65536<=0+65536+((0:Nat):Int);omega
   .show(j:Int)+1<=4;omega
  .rw[GB hi,GB aw]at C;have:(j:Int)+1=(m:Int)+1:=C;omega
  .rw[GB aj];exact nK _
theorem amS{n:Nat}(G:1<=n)(cR:n<=4):Dc ((jG n).map g8)=B (Gv n,0):=by
 have a:dq (IT<|(jG n).map g8) 0=B ():=by
  refine nr (Q:=n) (λg af=>?_) ?_
  .unfold IT;simp only[fT,tl];rw[dO,dz af,c6,et Xf,cI];simp only[oG,zB];rw[(L5 (dd:g<4)).2.2.1,cI,c6,e7 I]
  .unfold IT;simp only[fT,tl];rw[dO,dr I,dm]
 have b:dq (IU<|(jG n).map g8) (0,[],[])=B (m_ n,fe n<|fe n Z):=by
  refine ow (λg=>((g:Int),m_ g,fe g<|fe n Z)) n (λg af=>?_) ?_
  .unfold IU;simp only[fT,tl];rw[dO,dz af,c6,et Xf,cI];simp only[oG,zB];have cN:F (m_ g)=g:=by simp[m_]
   rw[(J:(g8 g).h1=fF g),aam (m_ g) I (λm aw=>by rw[cN]at aw;rw[<-vQ I,GB aw];rfl) g,cN,dA I,cI,(J:decide ((-1:Int)>=0)=Z),dm];rw[show U e9 (U W ((g:Int)+1))=(g:Int)+1 by rw[fx I I,uk];omega];rw[show Aa (g8 g) 0 ((g:Int)+1) 0 ⟨0,[],[0,0,0,0,0,0,0,0]⟩=_ from abG cR af I Xi I];simp only[cI,(J:((0:Int) !=0)=Z),dm,cQ.cL];rw[he _ _ I (by rw[cN];simp;omega),cI,vM n I,cI,he _ _ I fv,cI,e7 I];rw[List.replicate_succ'];simp[m_,VE]
  .unfold IU;simp only[fT,tl];rw[dO,dr I,dm]
 unfold Dc;simp only[fT,tl];rw[dr I,dr I,a,b,vM n I];rfl
theorem ae7(h:iC n S A x)(G:1<=n){s:E (E Int)}(cN:H3 n s)(on:Bool):de (AE A s on) λv=>v.2=T/\v.1.fg=A.fg/\iC n S v.1 x:=by
 have Q:=cN.2;unfold AE;refine de.bind (u:=λl=>l.fg=A.fg/\iC n S l x) (hk (λa=>∃g:Nat,a.1=(g:Int)/\g<=F s/\a.2.fg=A.fg/\iC n S a.2 x) (λa=>((F s:Int)-a.1).toNat) (λa d=>?_) ef) λl b=>dg.2 cU
 have⟨ab,ae⟩:=a;have⟨g,C,af,j,k⟩:=d;simp only at C j k;subst C;unfold WP;simp only;by_cases i:g<F s
 .rw[dO,dz i,c6,e7 I];have⟨t,l,e,u,b,y⟩:=cN.1 _ (fi i);refine de.bind (u:=λl=>l.fg=A.fg/\iC n S l x) (hk (λa=>∃m:Nat,a.1=(m:Int)/\m<=2/\a.2.fg=A.fg/\iC n S a.2 x) (λa=>((2:Int)-a.1).toNat) (λa d=>?_) ⟨0,rfl,I,j,k⟩) λl b=>dg.2<|.inl ⟨_,rfl,⟨g+1,rfl,I,b.1,b.2⟩,ew⟩
  have⟨aa,D⟩:=a;have⟨m,z,aw,ar,p⟩:=d;simp only at z ar p;subst z;unfold WQ;simp only;rw[et i,e];by_cases P:m<2
  .have q:∀{a o:Nat},a<n->o<n->a≠o->de (n_ D ⟨1,(a:Int),(o:Int),on,0,⟨0,0,0,0,eP,eP,0,0,[]⟩,[],⟨0,[],[0,0,0,0,0,0,0,0]⟩,⟨eP,eP,0,0⟩⟩) λv=>v.2=0/\v.1.fg=D.fg/\iC n S v.1 x:=λd ad K=>ai2 p G d ad K
   rcases(by omega:m=0\/m=1)with rfl|rfl
   .refine de.bind (q u b y) λN aV=>?_
    rw[aV.1];exact dg.2<|.inl ⟨_,rfl,⟨1,rfl,I,ag6,aV.2.2⟩,(by decide:(2-(1:Int)).toNat<(2-(0:Int)).toNat)⟩
   .refine de.bind (q b u<|l5 y) λN aV=>?_
    rw[aV.1];exact dg.2<|.inl ⟨_,rfl,⟨2,rfl,I,ag6,aV.2.2⟩,(by decide:(2-(2:Int)).toNat<(2-(1:Int)).toNat)⟩
  .rw[dr (dd:¬(m:Int)<2),dm];exact dg.2<|.inr ⟨_,rfl,ar,p⟩
 .rw[dO,dr i,dm];exact dg.2<|.inr ⟨_,rfl,j,k⟩
theorem asv(h:iC n S A x)(G:1<=n)(j:S+10600000*145<=4294836223)(ax:A.fg<=1000):de (yq A 0) λv=>v.2=T/\v.1.fg<=A.fg+145/\∃ai,g5 x ai/\iC n (S+10600000*145) v.1 ai:=by
 have cR:=h.gd.jo;have k:=h.gd.kV;have i:iC n S {A with jr:=[]} x:=⟨⟨h.s.nt,h.s.mq,h.s.pP,h.s.qX,⟨dh,λan N=>ry⟩,h.s.jM⟩,h.gd⟩;unfold yq Pj;rw[h.s.nt,dr I,dr I];simp only[dm,cI];have e:U W (U W (89+U W ((n:Int)*14))+0)=((89+n*14:Nat):Int):=by rw[fx (a:=(n:Int)*14) I I,fx (a:=89+_) I I,fx I I];omega
 rw[e];refine(T3 i G (g:=89+n*14) I I ef).bind λv ab=>?_
 have⟨b,a,ai,d,g⟩:=ab;have a:v.1.fg=A.fg+((89+n*14:Nat):Int):=a;rw[b];exact dg.2 ⟨rfl,ew,ai,d,g.mono I j⟩
theorem asw{b:iD}(h:lN b){n:Nat}(G:1<=n)(cR:n<=4):de (yr b ((jG n).map g8)) λv=>v.2.2.1=T/\H3 n v.2.1/\lN {b with at_:=v.2.2.2}/\v.1.fg<=145/\∃x,x.L=[]/\x.eH=4/\iC n (10600000*145) v.1 x:=by
 unfold yr;simp only[fT,tl];refine(ass h G cR).bind λs a=>?_
 rw[amS G cR];simp only[cI,(J:((0:Int) !=0)=Z),dm];refine(ae7 (amx G cR) G a.1 T).bind λp m=>?_
 have⟨i,d,j⟩:=m;have d:p.1.fg=0:=d;rw[i,c6];refine(asv j G dd I).bind λt o=>dg.2 ?_
 have⟨k,q,ai,g,l⟩:=o;exact⟨k,a.1,a.2,ew,ai,g.1,g.2,by simpa using l⟩
def kE(e:mG)(v:gK):Bool:=v.hC.gi==1&&(v.hC.oY==fF e.o&&v.hC.ga==e.nu)
def jm(a:E gK)(e:mG):Nat:=F (a.filter (kE e))
def w5{e:mG}{v:gK}:kE e v=T↔v.hC.gi=1/\v.hC.oY=fF e.o/\v.hC.ga=e.nu:=by unfold kE;simp
def akm{b:E gK}(h:b.Pairwise Yl)(e:mG):jm b e<=1:=by
 have Y:=h.filter<|kE e;unfold jm
 match cN:b.filter (kE e),Y with
 |[],_=>simp
 |[_],_=>simp
 |v::w::s,Y=>have ab:v∈b.filter (kE e):=QI;have a:w∈b.filter (kE e):=QI;have ab:=w5.1 (oE.1 ab).2;have a:=w5.1 (oE.1 a).2;have:=(v8.1 Y).1 w dh ab.1 a.1 (by rw[ab.2.1,a.2.1]);exact absurd (by rw[ab.2.2,a.2.2]) this
theorem aeV{ag:Type}(f x:ag->Nat):∀s:E ag,(s.map λa=>f a+x a).sum=(s.map f).sum+(s.map x).sum
 |[]=>rfl
 |a::s=>by simp only[hx,xN,aeV f x s];omega
theorem aeW{ag:Type}(z:ag->Bool):∀s:E ag,(s.map λa=>if z a then 1 else 0).sum=F (s.filter z)
 |[]=>rfl
 |a::s=>by simp only[hx,xN,aeW z s,v7];split<;>simp;omega
theorem adv{L:E mG}(g:L.Pairwise λt l=>t.o=l.o->t.nu≠l.nu){v:gK}{e:mG}(k:e∈L)(ab:kE e v=T):F (L.filter λe=>kE e v)=1/\∀a∈L,kE a v=T->a=e:=by
 have ap:=w5.1 ab;have i:∀a∈L,kE a v=T->a=e:=λa q x=>by
  have u:=w5.1 x;have aG:a.o=e.o:=vy dd;have aD:a.nu=e.nu:=by rw[<-u.2.2,ap.2.2]
  obtain⟨j,hi,rfl⟩:=mf.1 q;obtain⟨m,aw,rfl⟩:=mf.1 k;rcases Nat.lt_trichotomy j m with C|C|C
  .exact absurd aD<|px.1 g j m hi aw C aG
  .subst C;rfl
  .exact absurd aD.symm<|px.1 g m j aw hi C aG.symm
 refine⟨?_,i⟩;have Y:=g.filter λe=>kE e v
 match cN:L.filter λe=>kE e v,Y with
 |[],_=>
  have:e∈L.filter λe=>kE e v:=oE.2 ⟨k,ab⟩
  rw[cN]at this;cases this
 |[_],_=>rfl
 |t::l::s,Y=>
  have b:t∈L.filter λe=>kE e v:=QI
  have d:l∈L.filter λe=>kE e v:=QI
  have b:=oE.1 b;have d:=oE.1 d;have o:=i t b.1 b.2;have p:=i l d.1 d.2;have:=(v8.1 Y).1 l dh;rw[o,p]at this;exact absurd rfl (this rfl)
theorem Z0{L:E mG}(d:L.Pairwise λt l=>t.o=l.o->t.nu≠l.nu):∀(b:E gK),(∀v∈b,v.hC.gi=1->∃e∈L,v.hC.oY=fF e.o/\v.hC.ga=e.nu)->(L.map (jm b)).sum=F (b.filter λv=>v.hC.gi==1)
 |[],_=>by
  have:∀s:E mG,(s.map<|jm []).sum=0:=λs=>by induction s with
   |nil=>rfl
   |cons a s i=>simp only[hx,xN,i];rfl
  rw[this];rfl
 |v::b,h=>by
  have e:(jm<|v::b)=λe=>(if kE e v then 1 else 0)+jm b e:=by funext e;unfold jm;rw[v7];split<;>simp;omega
  rw[e,aeV,aeW (λe=>kE e v),Z0 d b λw g=>h w (by simp[g]),v7];by_cases C:v.hC.gi=1
  .have⟨e,aG,aD,aQ⟩:=h v dh C;rw[(adv d aG (w5.2 ⟨C,aD,aQ⟩)).1,dE EU];simp;omega
  .have:(L.filter λe=>kE e v)=[]:=List.filter_eq_nil_iff.2 λe _ an=>C (w5.1 an).1
   rw[this,dA EU];simp
theorem arJ{z:ee}(Y:F z.f7<=1000):DS z z=B T:=by
 have a:∀s:E Int,nn 16 s s=T:=λs=>ajd.2 λ_ _=>rfl
 unfold DS;refine gt dh<|gt dh<|gt dh<|gt dh<|gt cU<|gt cU<|gt dh<|gt dh<|dS (v:=T) ?_ rfl;unfold Py;refine gL dh (dS (v:=()) (nr (Q:=F z.f7) (λg af=>?_) ?_) rfl)
 .unfold Pz;rw[dO,dz af,c6,et af,cI,cI,e7 I];simp
 .unfold Pz;rw[dO,dr I,dm]
theorem akZ{A:eZ}(cN:F A.fI<=4096){e:mG}(cK:e.o<4):de (EC A 1 (e.o:Int) e.nu) λv=>v.1=(jm A.fI e:Int)/\(jm A.fI e=0\/∃w∈A.fI,kE e w=T/\v.2.1=w.sB/\v.2.2=w.hC.lM):=by
 unfold EC;refine de.bind (u:=λl=>l.1=(jm A.fI e:Int)/\(jm A.fI e=0\/∃w∈A.fI,kE e w=T/\l.2.1=w.sB/\l.2.2=w.hC.lM)) (hk (λa=>∃g:Nat,a.2.2.1=(g:Int)/\g<=F A.fI/\a.1=(jm (A.fI.take g) e:Int)/\(jm (A.fI.take g) e=0\/∃w∈A.fI,kE e w=T/\a.2.1=w.sB/\a.2.2.2=w.hC.lM)) (λa=>((F A.fI:Int)-a.2.2.1).toNat) (λa d=>?_) ⟨0,rfl,I,rfl,.inl rfl⟩) λl o=>dg.2 o
 have⟨c,t,q,z⟩:=a;have⟨g,m,af,b,j⟩:=d;simp only at m b j;subst m;unfold WO AC;simp only;by_cases i:g<F A.fI
 .rw[dO,dz i,c6,et i,cI,e7 I,(NY cK).2.2];have p:jm (A.fI.take g) e<=g:=mY (xJ _ _) yB;have aG:jm (A.fI.take<|g+1) e=jm (A.fI.take g) e+if kE e A.fI[g]then 1 else 0:=by unfold jm;rw[na i,xK,g9,v7];split<;>simp
  have k:kE e A.fI[g]=Z->de (B (dV (c,t,((g+1:Nat):Int),z)):X ((Int×Int×Int×ee)⊕(Int×Int×ee))) λa=>(∃ao,a=.inl ao/\(∃g:Nat,ao.2.2.1=(g:Int)/\g<=F A.fI/\ao.1=(jm (A.fI.take g) e:Int)/\(jm (A.fI.take g) e=0\/∃w∈A.fI,kE e w=T/\ao.2.1=w.sB/\ao.2.2.2=w.hC.lM))/\((F A.fI:Int)-ao.2.2.1).toNat<((F A.fI:Int)-(g:Int)).toNat)\/∃l,a=.inr l/\l.1=(jm A.fI e:Int)/\(jm A.fI e=0\/∃w∈A.fI,kE e w=T/\l.2.1=w.sB/\l.2.2=w.hC.lM):=λC=>by rw[C]at aG;have aG:jm (A.fI.take<|g+1) e=jm (A.fI.take g) e:=aG;exact dg.2<|.inl ⟨_,rfl,⟨g+1,rfl,I,by rw[aG];exact b,by rw[aG];exact j⟩,ew⟩
  refine ep.2 ⟨λaC=>?_,λC=>k (by unfold kE;rw[C];rfl)⟩;rw[cI];refine ep.2 ⟨λau=>ep.2 ⟨λaL=>?_,λC=>k (by unfold kE;rw[C];simp)⟩,λC=>k (by unfold kE;rw[C];simp)⟩;have C:kE e A.fI[g]=T:=by unfold kE;rw[aC,au,aL];rfl
  rw[C]at aG;have aG:jm (A.fI.take<|g+1) e=jm (A.fI.take g) e+1:=aG;rw[cI,b,e7 I];exact dg.2<|.inl ⟨_,rfl,⟨g+1,rfl,I,by rw[aG],.inr ⟨_,fi i,C,rfl,rfl⟩⟩,ew⟩
 .rw[dO,dr i,dm];have:g=F A.fI:=I;rw[this,iV]at b j;exact dg.2<|.inr ⟨_,rfl,b,j⟩
structure AU(n:Nat)(a:iD)(g:Nat)(q:(E ee)×(E Int)×(E Int)×(E Int)×Int×eZ)(x:fG):Prop where
 NZ:lN {a with at_:=q.2.2.2.2.1}
 vL:iC n (10600000*145+40000000*g) q.2.2.2.2.2 x
 eH:x.eH<500+g
 l:F x.L<=g
 now:q.2.2.2.2.2.fg<=145+3*g
 p:q.1=x.L.map mG.p
 o:q.2.1=x.L.map λe=>(e.o:Int)
 b:q.2.2.1=x.L.map λe=>(e.b:Int)
 u:q.2.2.2.1=x.L.map mG.nu
theorem asu{n:Nat}{S:Int}{A:eZ}{x:fG}(h:iC n S A x)(G:1<=n){t l:Nat}(d:t<n)(i:l<n){z:ee}(Y:lI t l z)(b:F x.L<25)(g:S+10300<=4294836223):de (AF A (t:Int) z) λv=>(v.2.2=Z)\/(v.2.2=T/\v.2.1=(mO A.fB t).ga/\v.1.fg=A.fg/\∃ai,ai.L=x.L++[⟨t,(mO A.fB t).ga,l,z⟩]/\ai.eH=x.eH/\iC n (S+10300) v.1 ai):=by
 have j:=h.s.nt;unfold AF;rw[et I,cI];refine(ai5 h G d i Y b g (v:=0) (c:=0) (on:=Z) (i:=[]) (q:=⟨0,[],[0,0,0,0,0,0,0,0]⟩) (d:=atj)).bind λw a=>?_
 rcases a with a|⟨e,aC,au⟩
 .rw[show(w.2 !=0)=T by simpa using a];exact dg.2<|.inl rfl
 .rw[e];exact dg.2<|.inr ⟨rfl,by rw[vQ],aC,au⟩
theorem asc(bx:Ey=B T)(aP aq aF:E Int)(cR:fS aF):AA aP aq aF=B T:=by
 suffices h:de (AA aP aq aF) λv=>v=T by obtain⟨v,e,rfl⟩:=h;exact e
 obtain⟨aj,aG,bD⟩:=asl aP;unfold AA;rw[aG,cI];refine(r5 bD 3 I I).bind λaR bp=>?_
 obtain⟨aC,au,bE⟩:=bp;obtain⟨n,bk⟩:∃n:Nat,2+aR.1=(n:Int):=⟨(2+aR.1).toNat,I⟩;have G:1<=n:=I;have aV:n<=4:=I;have a8:U W (2+aR.1)=(n:Int):=by rw[fx I I];exact bk
 rw[a8,asr aV,cI];refine(asw bE G aV).bind λce bz=>?_
 obtain⟨a_,ba,bb,bc,bn,ah,bd,aS⟩:=bz;rw[a_,c6,aS.s.nt,(wT:((n:Int) !=(n:Int))=Z),dm];refine de.bind (u:=λa=>∃q p x,a=.inl (q:(E ee)×(E Int)×(E Int)×(E Int)×eZ)/\AU n aj 25 (q.1,q.2.1,q.2.2.1,q.2.2.2.1,p,q.2.2.2.2) x) (hk (λa=>∃g:Nat,a.2.2.2.2.1=(g:Int)/\g<=25/\∃x,AU n aj g (a.1,a.2.1,a.2.2.1,a.2.2.2.1,a.2.2.2.2.2.1,a.2.2.2.2.2.2) x) (λa=>((25:Int)-a.2.2.2.2.1).toNat) (λa d=>?_) ⟨0,rfl,I,bn,bb,by simpa using aS,by rw[bd];decide,by rw[ah];exact jq _,by simpa using bc,QJ,QJ,QJ,QJ⟩) λa d=>?_
 .obtain⟨ad,S,ae,aa,aX,p,A⟩:=a;obtain⟨g,P,af,x,b⟩:=d;simp only at P;subst P;have b3:=b.vL.gd.kV;have a2:de (B (Sum.inr<|dV (ad,S,ae,aa,A)):X (((E ee)×(E Int)×(E Int)×(E Int)×Int×Int×eZ)⊕(((E ee)×(E Int)×(E Int)×(E Int)×eZ)⊕Bool))) λa=>(∃ao,a=.inl ao/\(∃g:Nat,ao.2.2.2.2.1=(g:Int)/\g<=25/\∃x,AU n aj g (ao.1,ao.2.1,ao.2.2.1,ao.2.2.2.1,ao.2.2.2.2.2.1,ao.2.2.2.2.2.2) x)/\((25:Int)-ao.2.2.2.2.1).toNat<((25:Int)-(g:Int)).toNat)\/∃r,a=.inr r/\∃q p x,r=.inl (q:(E ee)×(E Int)×(E Int)×(E Int)×eZ)/\AU n aj 25 (q.1,q.2.1,q.2.2.1,q.2.2.2.1,p,q.2.2.2.2) x:=by have K:=b.now;have eH:=b.eH;have s:=b.l;simp only at K;exact dg.2<|.inr ⟨_,rfl,_,p,x,rfl,⟨b.NZ,b.vL.mono I h8,I,I,ew,b.p,b.o,b.b,b.u⟩⟩
  unfold WJ;simp only[a8];refine ep.2 ⟨λaL=>ep.2 ⟨λaT=>?_,λ_=>a2⟩,λ_=>a2⟩;have aL:g<F aq:=by have:=f8 aL;omega
  have aT:g<25:=by have:=f8 aT;omega
  rw[et aL,cI];refine(ask aq[g] 16777216 I I).bind λz ax=>?_
  rw[dz (dd:(n:Int)≠0)];simp only[c6];have an:∀aM aI aO aJ ar N ai,lN {aj with at_:=ar}->iC n (10600000*145+40000000*g+200000) N ai->ai.eH<500+(g:Int)+1->F ai.L<=g+1->N.fg<=145+3*g->aM=ai.L.map mG.p->(aI=ai.L.map λe=>(e.o:Int))->(aO=ai.L.map λe=>(e.b:Int))->aJ=ai.L.map mG.nu->de (qE z (ad,S,ae,aa,(g:Int),p,A) (aM,aI,aO,aJ,ar,N)) λa=>(∃ao,a=.inl ao/\(∃g:Nat,ao.2.2.2.2.1=(g:Int)/\g<=25/\∃x,AU n aj g (ao.1,ao.2.1,ao.2.2.1,ao.2.2.2.1,ao.2.2.2.2.2.1,ao.2.2.2.2.2.2) x)/\((25:Int)-ao.2.2.2.2.1).toNat<((25:Int)-(g:Int)).toNat)\/∃r,a=.inr r/\∃q p x,r=.inl (q:(E ee)×(E Int)×(E Int)×(E Int)×eZ)/\AU n aj 25 (q.1,q.2.1,q.2.2.1,q.2.2.2.1,p,q.2.2.2.2) x:=by
   intro aM aI aO aJ ar N ai Q aH a3 bH cb bI bJ bK bL;unfold qE;simp only;obtain⟨m,bj,aw⟩:∃m:Nat,hc (hf W z 1024) 4=(m:Int)/\m<=3:=by unfold hf;rw[ux ax.1,fx I I,Cs I];exact⟨(z/1024%4).toNat,I,I⟩
   rw[bj];refine(T3 aH G (g:=m) I I I).bind λcc bo=>?_
   obtain⟨am,y,aN,i,o⟩:=bo;rw[am];refine dg.2<|.inl ⟨_,rfl,⟨g+1,by simp only;rw[e7 I],I,aN,Q,o.mono I I,by rw[i.2];omega,by rw[i.1];exact bH,ew,by rw[i.1];exact bI,by rw[i.1];exact bJ,by rw[i.1];exact bK,by rw[i.1];exact bL⟩,by simp only;rw[e7 I];omega⟩
  have eH:=b.eH;have s:=b.l;have K:=b.now;simp only at K;have ap:∀N ai,g5 x ai->N.fg=A.fg->iC n (10600000*145+40000000*g+200000) N ai->_:=λN ai Q aH a3=>an ad S ae aa p N ai b.NZ a3 (by rw[Q.2];omega) (by rw[Q.1];omega) (by rw[aH];exact K) (by rw[Q.1];exact b.p) (by rw[Q.1];exact b.o) (by rw[Q.1];exact b.b) (by rw[Q.1];exact b.u)
  have aZ:iC n (10600000*145+40000000*g+200000) A x:=b.vL.mono I I;have gJ:=ap A x g5.rfl' rfl aZ;obtain⟨t,bg,az⟩:∃t:Nat,hc z (n:Int)=(t:Int)/\t<n:=by have:=OE (n:Int) ax.1;have:=HR z (dd:(0:Int)<n);exact⟨(hc z (n:Int)).toNat,I,I⟩
  obtain⟨l,bh,aA⟩:∃l:Nat,hc (hf W z 8) (n:Int)=(l:Int)/\l<n:=by
   have u:0<=hf W z 8:=by unfold hf;rw[ux ax.1,fx I I];omega
   have:=OE (n:Int) u;have:=HR (hf W z 8) (dd:(0:Int)<n);exact⟨(hc (hf W z 8) (n:Int)).toNat,I,I⟩
  rw[bg,bh];refine ep.2 ⟨λ_=>?_,λ_=>ep.2 ⟨λ_=>?_,λ_=>ep.2 ⟨λ_=>?_,λ_=>ep.2 ⟨λ_=>?_,λ_=>?_⟩⟩⟩⟩
  .refine(ae7 b.vL G ba _).bind λbR bq=>?_
   obtain⟨_,y,i⟩:=bq;exact ap bR.1 x g5.rfl' y<|i.mono I I
  .rw[show U W (500+(g:Int))=500+(g:Int)from fx I I];refine de.bind (ai4 b.vL G az I Xi eH) λa5 br=>?_
   rcases br with C|⟨C,y,ai,i,o,av⟩
   .rw[show(a5.2==0)=Z by simpa using C];exact gJ
   .rw[C];exact an ad S ae aa p a5.1 ai b.NZ (av.mono I I) (by rw[o];omega) (by rw[i];omega) (by rw[y];exact K) (by rw[i];exact b.p) (by rw[i];exact b.o) (by rw[i];exact b.b) (by rw[i];exact b.u)
  .refine de.bind (ai6 b.vL G az) λbS ay=>?_
   obtain⟨am,y,i⟩:=ay;rw[am];exact ap bS.1 x g5.rfl' y<|i.mono I I
  .refine de.bind (ai3 b.vL G cR) λa6 bs=>?_
   rcases bs with C|⟨C,y,i⟩
   .rw[show(a6.2==0)=Z by simpa using C];exact gJ
   .rw[C,beq_self_eq_true,c6];have ag:=i.mono (k:=10600000*145+40000000*(g:Int)+200000) I I;refine ep.2 ⟨λ_=>?_,λ_=>?_⟩
    .exact ap a6.1 x g5.rfl' y ag
    .exact gJ
  .rw[(NY (dd:l<4)).1,cI];refine(ast b.NZ (l:=l) (dd:t<4)).bind λcd bt=>?_
   obtain⟨lt,a4⟩:=bt;refine(asu b.vL G az aA lt I I).bind λbT bu=>?_
   rcases bu with C|⟨C,y,i,ai,o,av,bf⟩
   .rw[C];exact an ad S ae aa _ A x a4 aZ I I K b.p b.o b.b b.u
   .have b7:F ad=F x.L:=by have:=b.p;simp only at this;rw[this];simp
    have b6:F S=F x.L:=by have:=b.o;simp only at this;rw[this];simp
    have b8:F ae=F x.L:=by have:=b.b;simp only at this;rw[this];simp
    have b9:F aa=F x.L:=by have:=b.u;simp only at this;rw[this];simp
    rw[C,c6,he _ _ I oe,cI,he _ _ I oe,cI,he _ _ I oe,cI,he _ _ I oe,cI];simp only[cQ.cL];refine an _ _ _ _ _ bT.1 ai a4 (bf.mono I I) (by rw[av];omega) (by rw[o];simp;omega) (by rw[i];exact K) ?_ ?_ ?_ ?_
    .rw[o,hN,<-b.p];rfl
    .rw[o,hN,<-b.o];rfl
    .rw[o,hN,<-b.b];rfl
    .rw[o,hN,<-b.u,y];rfl
 .obtain⟨⟨ad,S,ae,aa,A⟩,p,x,rfl,b⟩:=d;simp only[xL];have K:=b.now;simp only at K;have aY:=b.vL;simp only at aY;refine(T3 aY G (g:=20) I h8 I).bind λj bv=>?_
  obtain⟨am,_,aN,i,o⟩:=bv;rw[am];simp only[(J:((0:Int) !=0)=Z),dm];have fN:=o.gd.jM;have aK:=o.gd.mT;have bF:=o.s.jM;have bM:ad=aN.L.map mG.p:=by rw[i.1];exact b.p
  have bN:S=aN.L.map λe=>(e.o:Int):=by rw[i.1];exact b.o
  have bO:ae=aN.L.map λe=>(e.b:Int):=by rw[i.1];exact b.b
  have bP:aa=aN.L.map mG.nu:=by rw[i.1];exact b.u
  have b5:=o.gd.pk;have a1:∀e,jm j.1.fI e<=1:=akm fN.2;have bQ:∀s:E mG,(s.map<|jm j.1.fI).sum<=1*F s:=λs=>Un λa _=>a1 a
  refine de.bind (u:=λa=>a=.inl (((aN.L.map<|jm j.1.fI).sum:Nat):Int)) (hk (λa=>∃g:Nat,a.2=(g:Int)/\g<=F aN.L/\a.1=((((aN.L.take g).map<|jm j.1.fI).sum:Nat):Int)) (λa=>((F aN.L:Int)-a.2).toNat) (λa d=>?_) ⟨0,rfl,I,rfl⟩) λa d=>?_
  .obtain⟨c,aX⟩:=a;obtain⟨g,P,af,D⟩:=d;simp only at P D;subst P;unfold WK;simp only[bM,bN,bO,bP,fT];by_cases aE:g<F aN.L
   .have aB:=fi aE;obtain⟨e,al⟩:∃e,e=aN.L[g]:=⟨_,rfl⟩;have aW:di (aN.L.map mG.p) (g:Int)=B e.p:=by rw[et EZ];simp[al]
    have bA:di (aN.L.map λe=>(e.o:Int)) (g:Int)=B (e.o:Int):=by rw[et EZ];simp[al]
    have bB:di (aN.L.map λe=>(e.b:Int)) (g:Int)=B (e.b:Int):=by rw[et EZ];simp[al]
    have bC:di (aN.L.map mG.nu) (g:Int)=B e.nu:=by rw[et EZ];simp[al]
    rw[<-al]at aB;obtain⟨b_,_,bG,_⟩:=aK.1 e aB;have ag:((aN.L.take<|g+1).map<|jm j.1.fI).sum=((aN.L.take g).map<|jm j.1.fI).sum+jm j.1.fI e:=by rw[na aE,hN,VF,al];simp
    have ay:=bQ<|aN.L.take g;rw[List.length_take]at ay;have ca:=a1 e;rw[dO,dz aE,c6,bA,cI,bC,cI,e7 I];refine(akZ bF (dd:e.o<4)).bind λcf bw=>?_
    obtain⟨bm,aU⟩:=bw;rw[bm,dr I,dm];have bX:U W (c+(jm j.1.fI e:Int))=((((aN.L.take<|g+1).map<|jm j.1.fI).sum:Nat):Int):=by rw[fx I I,ag,D];omega
    have a0:de (B (dV (U W<|c+(jm j.1.fI e:Int),((g+1:Nat):Int))):X ((Int×Int)⊕(Int⊕Bool))) λa=>(∃ao,a=.inl ao/\(∃g:Nat,ao.2=(g:Int)/\g<=F aN.L/\ao.1=((((aN.L.take g).map<|jm j.1.fI).sum:Nat):Int))/\((F aN.L:Int)-ao.2).toNat<((F aN.L:Int)-(g:Int)).toNat)\/∃r,a=.inr r/\r=.inl (((aN.L.map<|jm j.1.fI).sum:Nat):Int):=dg.2<|.inl ⟨_,rfl,⟨g+1,rfl,I,bX⟩,ew⟩
    refine ep.2 ⟨λC=>?_,λ_=>by rw[aW,cI];exact a0⟩;have C:(jm j.1.fI e:Int)=1:=EU;rcases aU with aU|⟨w,bU,a7,bV,bW⟩
    .omega
    obtain⟨a9,ci,cj⟩:=w5.1 a7;obtain⟨ak,bY,bZ,b0,b1,b2,cg,_⟩:=fN.1 w bU a9;have:ak=e:=(adv aK.2 aB a7).2 ak bY<|w5.2 ⟨a9,bZ,b0⟩;subst this;rw[bB,cI,bV,b1,(wT:((ak.b:Int) !=(ak.b:Int))=Z),dm,aW];simp only[cI,bW];have bl:{w.hC.lM with e3:=ak.p.e3}=ak.p:=by rw[b2]
    rw[bl,arJ (by have:=bG.len;omega),cI,c6,dr I,dm];exact a0
   .rw[dO,dr aE,dm];have:g=F aN.L:=I;rw[this,iV]at D;exact dg.2<|.inr ⟨_,rfl,by rw[D]⟩
  .subst d;simp only[xL];refine de.bind (u:=λl=>l=(F (j.1.fI.filter λv=>v.hC.gi==1):Int)) (hk (λa=>∃g:Nat,a.2=(g:Int)/\g<=F j.1.fI/\a.1=(F ((j.1.fI.take g).filter λv=>v.hC.gi==1):Int)) (λa=>((F j.1.fI:Int)-a.2).toNat) (λa d=>?_) ⟨0,rfl,I,rfl⟩) λl aA=>?_
   .obtain⟨c,aX⟩:=a;obtain⟨g,P,af,D⟩:=d;simp only at P D;subst P;unfold WL KY;simp only;by_cases aE:g<F j.1.fI
    .have b4:F ((j.1.fI.take g).filter λv=>v.hC.gi==1)<=g:=mY (xJ _ _) yB;have ag:F ((j.1.fI.take<|g+1).filter λv=>v.hC.gi==1)=F ((j.1.fI.take g).filter λv=>v.hC.gi==1)+if j.1.fI[g].hC.gi==1 then 1 else 0:=by rw[na aE,xK,g9,v7];split<;>simp
     rw[dO,dz aE,c6,et aE,cI,e7 I,D];refine ep.2 ⟨λC=>?_,λC=>?_⟩
     .rw[C]at ag;rw[e7 I];exact dg.2<|.inl ⟨_,rfl,⟨g+1,rfl,I,by rw[ag];rfl⟩,ew⟩
     .rw[C]at ag;exact dg.2<|.inl ⟨_,rfl,⟨g+1,rfl,I,by rw[ag];rfl⟩,ew⟩
    .rw[dO,dr aE,dm];have:g=F j.1.fI:=I;rw[this,iV]at D;exact dg.2<|.inr ⟨_,rfl,D⟩
   .rw[bx,cI,c6,aA,<-Z0 aK.2 j.1.fI λv ab C=>by obtain⟨e,aG,aD,aQ,_⟩:=fN.1 v ab C;exact⟨e,aG,aD,aQ⟩]
    exact dg.2 dh
end
end Go.Proofs.YtddmdeaegbfhaaaGreat
