/- Proves that, whatever happens to the links, whoever sleeps or starts again, and whatever is lost or late, no packet is delivered twice, none elsewhere than at its destination, and none changed but for its hops, for all tapes, scripts and noise, with no further condition. -/
import Derived.Test.YtddmdeaegbfhaaaGreatKUStorm7
import Derived.Test.YtddmdeaegbfhaaaGreatKUStorm0
namespace Go.Proofs.YtddmdeaegbfhaaaGreat
set_option linter.all false
set_option maxRecDepth 100000
open Go.ChangeAt Go.ChangeShapes Go.RowKit Go.WideShapes
open _root_.Bool renaming false->Z,true->T
open Go renaming DataW->uu,MemPlace->Oi,Program->dw,TypeId->f1,Value->dp
open Go.Addr renaming add_mid->VI
open Go.DataW renaming weights->VG,weightsAll->HS
open Go.IntKind renaming i64->W,u8->cH
open Go.Proofs.Tryz renaming prog->h6
open Go.Value renaming okWide->VJ
open Go.World renaming cells?_some->VH
open _root_.List renaming getElem?_cons_zero->rf,getElem?_eq_getElem->e6,getElem?_eq_some_iff->ie,getElem?_map->gy,length->F,mem_map->hT
open _root_.Option renaming bind_eq_some_iff->jc,bind_some->cI,getD_some->n7,map_eq_some_iff->gG,none->M,some->B
open _root_.Option.some renaming injEq->h0
def ajH:ke 117 2 aug=B auh:=J
def auU:ke 117 2 auh=B aui:=J
def ajI:ke 117 2 aui=B auj:=J
def auV:ke 117 2 auj=B auk:=J
def ajJ:ke 117 2 auk=B aul:=J
def auW:ke 117 2 aul=B aum:=J
def ajK:ke 117 2 aum=B aun:=J
def auX:ke 117 2 aun=B auo:=J
def ajL:ke 117 2 auo=B aup:=J
def auY:ke 117 2 aup=B aur:=J
def ajN:ke 117 2 aur=B aus:=J
def auZ:ke 117 2 aus=B aut:=J
def ajO:ke 117 2 aut=B auu:=J
def au0:ke 117 2 auu=B auv:=J
def ajP:ke 117 2 auv=B auw:=J
def au1:ke 117 2 auw=B aux:=J
def ajQ:ke 117 2 aux=B auy:=J
def au2:ke 117 2 auy=B auz:=J
def ajR:ke 117 2 auz=B auA:=J
def au3:ke 117 2 auA=B atH:=J
def ajp:ke 117 2 atH=B atI:=J
def auC:ke 117 2 atI=B atJ:=J
def ajq:ke 117 2 atJ=B atK:=J
def auD:ke 117 2 atK=B atL:=J
def ajr:ke 117 2 atL=B atM:=J
def auE:ke 117 2 atM=B atN:=J
def ajs:ke 117 2 atN=B atO:=J
def auF:ke 117 2 atO=B atP:=J
def ajt:ke 117 1 atP=B au4:=J
def RB:ee:=⟨0,0,17,64,yR,yS,61617,0,[]⟩
def Zy:E (E Int):=[[0,1]]
def LY:eZ:=⟨0,[⟨qM,⟨[⟨1,no⟩],0,65536,1,[]⟩,0,T,0,0,0,23,0,⟨i9,0,0,16,0,0,[tU],[],[],[],[],[],⟨[],0⟩⟩,[],[],[],nW,[],[]⟩,⟨qN,⟨[⟨1,no⟩],0,65536,2,[]⟩,0,T,0,0,0,23,0,⟨i_,0,0,16,0,0,[tV],[],[],[],[],[],⟨[],0⟩⟩,[],[],[],nW,[],[]⟩],[[Z,T],[T,Z]],[Z,Z],[],[],[]⟩
def wX:eZ:=⟨117,[⟨qM,⟨[⟨1,no⟩],89,65536,1,[⟨⟨3,0,i_⟩,1,87,4294967295⟩]⟩,89,Z,0,0,0,23,120,⟨i9,14,112,16,59,118,[tU],[⟨i_,⟨T,255,8,58,256⟩,120,124⟩],[⟨jz,⟨14,0⟩,136⟩,⟨jA,⟨14,256⟩,136⟩],[⟨jA,i_,⟨14,0⟩,126⟩],[⟨jA,i_,⟨14,256⟩,-1,0⟩],[],⟨[⟨jz,⟨14,0⟩⟩,⟨jA,⟨14,256⟩⟩],118⟩⟩,[],[],[],nW,[],[]⟩,⟨qN,⟨[⟨1,no⟩],89,65536,2,[⟨⟨3,0,i9⟩,1,87,4294967295⟩]⟩,89,Z,0,0,0,23,120,⟨i_,14,112,16,59,118,[tV],[⟨i9,⟨T,255,8,58,256⟩,120,124⟩],[⟨jz,⟨14,256⟩,136⟩,⟨jA,⟨14,0⟩,136⟩],[⟨jz,i9,⟨14,0⟩,126⟩],[⟨jz,i9,⟨14,256⟩,-1,0⟩],[],⟨[⟨jz,⟨14,256⟩⟩,⟨jA,⟨14,0⟩⟩],118⟩⟩,[],[],[],nW,[],[]⟩],[[Z,T],[T,Z]],[Z,Z],[⟨1,117,[72,176,88,0,1,255,255,2,0,0,0,0,0,0,1,0,0,0,88,1,42,1,0,0,0,0,116,0,16,1,2,0,58,2,10,2,0,0,0,0,0,0,2,1,0,114,15,240,14,27,41]⟩,⟨0,117,[72,176,88,0,1,255,255,2,0,0,0,0,0,0,2,0,0,0,88,1,42,1,0,0,0,0,116,0,16,1,2,0,58,2,10,2,0,0,0,0,0,0,1,1,0,14,228,57,44,234,100]⟩],[],[]⟩
def Bg:eZ:=⟨117,[⟨qM,⟨[⟨1,no⟩],90,65536,1,[⟨⟨3,0,i_⟩,1,87,4294967295⟩]⟩,90,Z,0,1,0,23,120,⟨i9,14,112,16,59,118,[tU],[⟨i_,⟨T,255,8,58,256⟩,120,124⟩],[⟨jz,⟨14,0⟩,136⟩,⟨jA,⟨14,256⟩,136⟩],[⟨jA,i_,⟨14,0⟩,126⟩],[⟨jA,i_,⟨14,256⟩,-1,0⟩],[],⟨[⟨jz,⟨14,0⟩⟩,⟨jA,⟨14,256⟩⟩],118⟩⟩,[],[⟨i_,89,[72,240,89,0,1,2,0,0,0,0,0,0,2,2,0,0,0,0,0,0,1,0,0,0,89,1,48,0,0,0,0,117,2,0,0,0,0,0,0,1,0,0,0,0,128,0,2,0,0,0,0,0,0,2,126,119,242,177,0,0,179,183,29,216,226,180,187,240],3,120⟩],[],nW,[],[]⟩,⟨qN,⟨[⟨1,no⟩],89,65536,2,[⟨⟨3,0,i9⟩,1,87,4294967295⟩]⟩,89,Z,0,0,0,23,120,⟨i_,14,112,16,59,118,[tV],[⟨i9,⟨T,255,8,58,256⟩,120,124⟩],[⟨jz,⟨14,256⟩,136⟩,⟨jA,⟨14,0⟩,136⟩],[⟨jz,i9,⟨14,0⟩,126⟩],[⟨jz,i9,⟨14,256⟩,-1,0⟩],[],⟨[⟨jz,⟨14,256⟩⟩,⟨jA,⟨14,0⟩⟩],118⟩⟩,[],[],[],nW,[],[]⟩],[[Z,T],[T,Z]],[Z,Z],[⟨1,117,[72,176,88,0,1,255,255,2,0,0,0,0,0,0,1,0,0,0,88,1,42,1,0,0,0,0,116,0,16,1,2,0,58,2,10,2,0,0,0,0,0,0,2,1,0,114,15,240,14,27,41]⟩,⟨0,117,[72,176,88,0,1,255,255,2,0,0,0,0,0,0,2,0,0,0,88,1,42,1,0,0,0,0,116,0,16,1,2,0,58,2,10,2,0,0,0,0,0,0,1,1,0,14,228,57,44,234,100]⟩,⟨1,118,[72,240,89,0,1,2,0,0,0,0,0,0,2,2,0,0,0,0,0,0,1,0,0,0,89,1,48,0,0,0,0,117,2,0,0,0,0,0,0,1,0,0,0,0,128,0,2,0,0,0,0,0,0,2,126,119,242,177,0,0,179,183,29,216,226,180,187,240]⟩],[],[⟨117,0,⟨2,i9,0,i_,⟨0,0,17,64,yR,yS,61617,0,[]⟩,[],0⟩⟩]⟩
def vn:eZ:=⟨120,[⟨qM,⟨[⟨1,no⟩],91,65536,1,[⟨⟨3,0,i_⟩,1,90,4294967295⟩]⟩,91,Z,0,1,0,23,120,⟨i9,14,112,16,60,120,[tU],[⟨i_,⟨T,255,8,60,256⟩,124,128⟩],[⟨jz,⟨14,0⟩,139⟩,⟨jA,⟨14,256⟩,139⟩],[⟨jA,i_,⟨14,0⟩,129⟩],[⟨jA,i_,⟨14,256⟩,-1,0⟩],[],⟨[⟨jz,⟨14,0⟩⟩,⟨jA,⟨14,256⟩⟩],121⟩⟩,[],[],[],nW,[],[]⟩,⟨qN,⟨[⟨1,no⟩],91,65536,2,[⟨⟨3,0,i9⟩,1,90,4294967295⟩]⟩,91,Z,0,0,0,23,120,⟨i_,14,112,16,60,120,[tV],[⟨i9,⟨T,255,8,60,256⟩,124,128⟩],[⟨jz,⟨14,256⟩,139⟩,⟨jA,⟨14,0⟩,139⟩],[⟨jz,i9,⟨14,0⟩,129⟩],[⟨jz,i9,⟨14,256⟩,-1,0⟩],[],⟨[⟨jz,⟨14,256⟩⟩,⟨jA,⟨14,0⟩⟩],121⟩⟩,[],[],[],nW,[],[]⟩],[[Z,T],[T,Z]],[Z,Z],[],[],[⟨117,0,⟨2,i9,0,i_,⟨0,0,17,64,yR,yS,61617,0,[]⟩,[],0⟩⟩,⟨118,1,⟨1,i9,0,0,⟨0,0,17,64,yR,yS,61617,0,[]⟩,[],0⟩⟩]⟩
def ajl{q:Type}(K:eZ->E (E Int)->Int->X q):((Ez ⟨[],0⟩ (F [qM,qN]:Int)).bind λa=>(Dc [qM,qN]).bind λb=>bif (b.2 !=0)then M else(AE b.1 a.1 T).bind λd=>bif d.2 then K d.1 a.1 a.2 else M)=K LY Zy 0:=J
def Zz(Q:Int)(aW:Q=117\/Q=3)(A:eZ)(q:uB)(aj:((z9 A).bind λb=>bif b then(z_ A).bind λd=>B (0,{d.eC with fB:=([]:E d3)},d.eC.fB)else M)=B q):ro A Q=(dq (wn Q) q).bind λa=>B (((eZ.mk a.1 a.2.2.2.2.2.2 a.2.1 a.2.2.1 a.2.2.2.1 a.2.2.2.2.1 a.2.2.2.2.2.1),0)):=by
 have⟨b,G,aj⟩:=jc.1 aj;cases b
 .cases aj
 have⟨d,g,aj⟩:=jc.1 aj;cases aj;unfold ro;rw[G];simp only[cI,c6];rw[g];rcases aW with rfl|rfl<;>rfl
def ajh:dq (wn 117) RD=B (117,[[Z,T],[T,Z]],[Z,Z],wX.hg,[],wX.fI,wX.fB):=Gt (kG 2 ajo (kG 2 auI (kG 2 ajB (kG 2 auT (kG 2 ajM (kG 2 auB (kG 2 aju (kG 2 auG (kG 2 ajv (kG 2 auH (kG 2 ajw (kG 2 auJ (kG 2 ajx (kG 2 auK (kG 2 ajy (kG 2 auL (kG 2 ajz (kG 2 auM (kG 2 ajA (kG 2 auN (kG 2 ajC (kG 2 auO (kG 2 ajD (kG 2 auP (kG 2 ajE (kG 2 auQ (kG 2 ajF (kG 2 auR (kG 2 ajG (kG 2 auS (kG 2 ajH (kG 2 auU (kG 2 ajI (kG 2 auV (kG 2 ajJ (kG 2 auW (kG 2 ajK (kG 2 auX (kG 2 ajL (kG 2 auY (kG 2 ajN (kG 2 auZ (kG 2 ajO (kG 2 au0 (kG 2 ajP (kG 2 au1 (kG 2 ajQ (kG 2 au2 (kG 2 ajR (kG 2 au3 (kG 2 ajp (kG 2 auC (kG 2 ajq (kG 2 auD (kG 2 ajr (kG 2 auE (kG 2 ajs (kG 2 auF (kG 1 ajt (A:=1) J)))))))))))))))))))))))))))))))))))))))))))))))))))))))))))
def ajj:yq LY 0=B (wX,T):=by
 have h:ro {LY with jr:=([]:E Int)} 117=B (wX,0):=by rw[Zz 117 (.inl rfl) _ RD J,ajh];rfl
 unfold yq;show(B 117).bind _=_;rw[cI];show(ro {LY with jr:=([]:E Int)} 117).bind _=_;rw[h];rfl
def aji:AF wX 0 RB=B (Bg,0,T):=J
def ajm:dq (wn 3) (0,{Bg with fB:=([]:E d3)},Bg.fB)=B (vn.fg,vn.eg,vn.hU,vn.hg,vn.jr,vn.fI,vn.fB):=Gt (n:=4) J
def ajk:ro Bg 3=B (vn,0):=by rw[Zz 3 (.inr rfl) _ (0,{Bg with fB:=([]:E d3)},Bg.fB) J,ajm];rfl
def ajf:Qn vn 0 1 0 RB 1=B T:=J
def vo{ag D:Type}{a:X ag}{v:ag}{f:ag->X D}{r:X D}(h:a=B v)(g:f v=r):a.bind f=r:=Xj
def RC{ag:Type}{c:Bool}{a o r:ag}(h:c=T)(g:a=r):(bif c then a else o)=r:=Xj
def ajg{ag:Type}{c:Bool}{a o r:ag}(h:c=Z)(g:o=r):(bif c then a else o)=r:=Xj
def ajn:Ey=B T:=by
 have G:z2 ([]:E Int)=B ⟨[],0⟩:=J;have g:AB 2=B [qM,qN]:=J;have aj:yr ⟨[],0⟩ [qM,qN]=B (wX,Zy,T,0):=by unfold yr;exact(ajl λA s t=>(yq A 0).bind λa=>B<|(a.1,s,a.2,t)).trans<|vo ajj rfl
 have i:(tG 1).bind (λa=>AD ⟨[],0⟩ 0 a 3)=B (RB,0):=J;have cN:((F wX.fB:Int) !=2)=Z:=J;have⟨a,b,d⟩:=jc.1 i;unfold Ey;exact vo G<|vo g<|vo aj<|RC rfl (ajg cN<|vo b<|vo d<|vo aji<|RC rfl (vo ajk<|RC rfl (vo ajf rfl)))
def LG(u:dw)(a:f1){H:Type}(i:uu H):Prop:=∀n∈i.weights u a,n<=reachBytes
def ER(u:dw)(d:f1){ag:Type}(f:ag->E V)(j:ag->Prop):Prop:=∀(H:Type) (g:f1×dp->H) (de:World) (i:Nat) (b:E dp) (a:uu H×E Oi),DataW.trod g u de 0 (λ_=>T) T i d b=B a->LG u d a.1->∃t:ag,Fb (q9 de) b 0 (F b) (f t)/\j t
def Qw.r{u:dw}{b:f1}{ag:Type}{f:ag->E V}{d:ag->Prop}(h:Qw u b f d):ER u b f d:=λH i de j g a G _=>h H i de j g a G
def zv{ag:Type}(z:ag->Prop)(s:E ag):Prop:=F s<=140737488351232/\∀an∈s,z an
def abB{H:Type}{u:dw}{e:f1}:∀{s:E (uu H)} {i:uu H},i∈s->∀n∈i.weights u e,n∈HS u e s
 |a::s,i,h,n,cR=>by
  simp only[HS,List.mem_append];rcases List.mem_cons.1 h with rfl|h
  .exact Or.inl cR
  .exact Or.inr<|abB h n cR
def UH{H:Type}{u:dw}{d:E f1}{a:E (uu H)}(h:(DataW.weightsEach u d a).all (·<=reachBytes)=T){m:Nat}{b:f1}{i:uu H}(ax:d[m]?=B b)(g:a[m]?=B i):LG u b i:=λn cR=>by have:=List.all_eq_true.1 h _ (DataW.weights_mem_each ax g n cR);simpa using this
def TA{u:dw}{S e:f1}{sz:Nat}(ax:u.underlying S=B (.slice e))(aU:u.cellsOf e=sz){ag:Type}{f:ag->E V}{D:ag->Prop}(ay:ER u e f D)(aP:∀t,F (f t)=sz)(az:decide (0<sz)=T)(am:decide (0<u.bytesOf e)=T):ER u S (jK sz f) (zv D):=by
 intro H af de aK aJ a h ab;have b:=f8 am;have Y:=f8 az;rcases DataW.trod_slice ax h with⟨rfl,_⟩|⟨t,g,aV,i,z,A,_,rfl,rfl,_,ao,aB,al,ar,_⟩
 .refine⟨[],⟨rfl,λm o ad=>?_⟩,dh,λan N=>absurd N dh⟩;rcases m with _|m
  .simp only[jK,List.map_nil,rf,h0]at ad;subst ad;exact⟨_,rfl,.nil _ _ _ h8⟩
  .simp[jK]at ad
 .have av:VG u S (.slice (i.map (·.1)) (z.map (·.1)):uu H)=((F (i.map (·.1))+F (z.map (·.1)))*u.bytesOf e::(HS u e (i.map (·.1))++HS u e (z.map (·.1)))):=by simp[VG,ax]
  have aO:g<=140737488351232:=by have aL:=ab ((F (i.map (·.1))+F (z.map (·.1)))*u.bytesOf e) (by rw[av];exact List.mem_cons_self);have aM:g*1<=(F (i.map (·.1))+F (z.map (·.1)))*u.bytesOf e:=Nat.mul_le_mul (by rw[List.length_map,al];omega) b;have aN:reachBytes=140737488351232:=rfl;omega
  have key:∀j,j<g->∃(P:E dp) (l:ag),de.cells? 0 (t.add<|j*sz) sz=B P/\Fb (q9 de) P 0 (F P) (f l)/\D l:=by
   intro j hi;have G:=ar j hi;rw[aU]at G;obtain⟨o,ad⟩:∃o,i[j]?=B o:=⟨_,e6 I⟩;rw[ad]at G;have⟨P,x,y⟩:=jc.1 G;have⟨l,Q,aG⟩:=ay H af de A P o y (λn cR=>ab n (by rw[av];exact List.mem_cons_of_mem _ (List.mem_append_left _ (abB (i:=o.1) (hT.2 ⟨o,List.mem_of_getElem? ad,rfl⟩) n cR))))
   exact⟨P,l,x,Q,aG⟩
  have SC:∃s:E ag,F s=g/\∀j l,s[j]?=B l->D l/\∃P,de.cells? 0 (t.add<|j*sz) sz=B P/\Fb (q9 de) P 0 (F P) (f l):=by
   have:∀C,C<=g->∃s:E ag,F s=C/\∀j l,s[j]?=B l->D l/\∃P,de.cells? 0 (t.add<|j*sz) sz=B P/\Fb (q9 de) P 0 (F P) (f l):=by
    intro C;induction C with
    |zero=>exact λ_=>⟨[],rfl,λj l b=>by simp at b⟩
    |succ C aE=>
     intro ap;have⟨s,cN,q⟩:=aE I;have⟨P,l,x,y,Q⟩:=key C I;refine⟨s++[l],by simp[cN],λj c k=>?_⟩;by_cases hi:j<F s
     .rw[List.getElem?_append_left hi]at k;exact q j c k
     .rw[List.getElem?_append_right I]at k;have ai:j-F s=0:=by have:=(ie.1 k).1;simp at this;omega
      rw[ai]at k;cases k;have:j=C:=I;subst this;exact⟨Q,P,x,y⟩
   exact this g<|Nat.le_refl _
  have⟨s,cN,q⟩:=SC;refine⟨s,⟨rfl,λm o ad=>?_⟩,I,λan N=>?_⟩
  .rcases m with _|m
   .simp only[jK,rf,h0]at ad;subst ad;refine⟨_,rfl,?_⟩;rw[cN];by_cases N:g=0
    .subst N;have:s=[]:=List.eq_nil_of_length_eq_zero cN;subst this;exact .nil _ _ _ aB
    .obtain⟨ae,ah⟩:∃l,s[0]?=B l:=⟨_,e6 I⟩;have⟨_,aI,aF,_⟩:=q 0 ae ah;have⟨aQ,_,aj⟩:=VH aF;have aa:=aj 0 I;have⟨K,aq,aH⟩:=t;have aA:aH=M:=by obtain⟨an,aD⟩:∃an,aI[0]?=B an:=⟨_,e6 I⟩;rw[aD]at aa;simpa[Addr.add]using World.cell?_spot aa
     subst aA;have vr:∀j l,s[j]?=B l->∀m o,(f l)[m]?=B o->∃p,de.cell? ⟨K,aq+j*sz+m,M⟩=B p/\h2 (q9 de) p o:=by
      intro j l b m o ad;have⟨_,P,x,y⟩:=q j l b;have⟨aR,_,ak⟩:=VH x;have⟨p,aC,au⟩:=y.2 m o ad;rw[Nat.zero_add]at aC;have aw:m<sz:=by have:=(ie.1 ad).1;rw[aP l]at this;exact this
      have:=ak m I;rw[aC]at this;refine⟨p,?_,au⟩;rwa[VI,VI]at this
     refine .d_ K aq g aV sz (s.map f) (λj m=>(de.cell? ⟨K,aq+j*sz+m,M⟩).getD<|.bool Z) (by simp[cN]) ao aB ?_ ?_ ?_
     .intro a d;obtain⟨l,_,rfl⟩:=hT.1 d;exact aP l
     .intro j a m o d ad;rw[gy]at d;obtain⟨l,b,rfl⟩:=gG.1 d;have⟨p,aC,_⟩:=vr j l b m o ad;simp only[q9,aC,n7]
     .intro j a m o d ad;rw[gy]at d;obtain⟨l,b,rfl⟩:=gG.1 d;have⟨p,aC,au⟩:=vr j l b m o ad;simp only[aC,n7];exact au
   .simp[jK]at ad
  .have⟨j,hi⟩:=List.getElem?_of_mem N;exact(q j an hi).1
def aql{u:dw}{a:f1}{H:Type}{b:f1×dp->H}{de:World}{v:dp}{i:uu H}{z:E Oi}{ag:Type}{f:ag->E V}{g:ag->Prop}{c:ag->V}(m:ER u a f g)(k:∀t,f t=[c t])(ab:v.cells= #[v])(h:DataW.Trod b u de 0 (λ_=>T) T a v i z)(o:LG u a i):∃t,fM (q9 de) Mh v (.c (c t))/\g t:=by have⟨j,l⟩:=h;have⟨t,aj,bw⟩:=m H b de j _ _ l o;rw[ab]at aj;refine⟨t,?_,bw⟩;have⟨p,d,q⟩:=aj.2 0 (c t) (by rw[k];rfl);simp at d;subst d;exact q.c
def Ty{u:dw}{a e:f1}{H:Type}{g:f1×dp->H}{de:World}{v:dp}{i:uu H}{z:E Oi}{r:Reach}{d:Nat}{ag:Type}{sz:Nat}{f:ag->E V}{b:E ag->Prop}(j:ER u a (jK sz f) b)(ax:u.underlying a=B (.slice e))
  (ab:VJ u de r d a v)(h:DataW.Trod g u de 0 (λ_=>T) T a v i z)(k:LG u a i):∃t,fM (q9 de) Mh v (.c<|eS sz f t)/\b t:=by
 obtain⟨l,m,aV,rfl⟩:=okWide_slice ax ab;exact aql j (λt=>rfl) rfl h k
set_option maxRecDepth 100000 in
theorem asy(ab:∀(p:E Int) (q:E Int) (s:E Int),zv (vZ W) p->zv (vZ W) q->zv (vZ cH) s->AA p q s=B T)(os:Os)(started:os.Started)(H:Type)(a:f1×dp->H):
  ReturnsInHanded {} Tryz.checked os 4 .any (Rows.topStormSpec.pre6 a h6 Tryz.f4 Rows.topStormRow.domain Z) (Rows.topStormSpec.post a h6 Tryz.f4 Z T Z Z):=by
 refine returnsInHanded_of_change_sized (C:=Tryz.checked) dk started J Tryz.func4
  (ChangeSpec.witness6 (enc:=a) (C:=Tryz.checked) Z ⟨#[],#[.slice M 0 0,.slice M 0 0,.slice M 0 0],[]⟩ 8 J J J J) ?_
 intro de Q args S aA ar y iU aD b _;have g:∀(m:Nat) D v,Tryz.f4.params[m]?=B D->args[m]?=B v->VJ h6 de .any Q D v:=y;have af:=iU;obtain⟨z,C,u,a0,rfl,aE,aF⟩:=iU;have i:DataW.TrodAll a h6 de 0 (λ_=>T) T Tryz.f4.params.toList args.toList S z:=u;have x:=i;rw[Tryz.params4]at i g x;obtain⟨j,aN,d0,ax,aG,lD,aB,rfl,rfl,dI,eM⟩:=trodAll_cons i;obtain⟨k,aO,av,ay,aH,aC,rfl,rfl,rfl,G,ah⟩:=trodAll_cons eM;obtain⟨l,aP,aw,az,aI,au,rfl,rfl,rfl,aa,ai⟩:=trodAll_cons ah;obtain⟨rfl,rfl,rfl⟩:=trodAll_nil ai;obtain rfl:args= #[j,k,l]:=by cases args;simp_all
 obtain⟨rfl,rfl⟩:=trodVars_none a0;have⟨K,ad,ak⟩:=Ty (TA (sz:=1) Tryz.underlying22 J (Tz (g:=W) Tryz.underlying3).r (λ_=>J) J J) Tryz.underlying22 (g 0 22 j rfl rfl) dI<|UH b (m:=0) J rfl;have⟨N,F6,al⟩:=Ty (TA (sz:=1) Tryz.underlying22 J (Tz (g:=W) Tryz.underlying3).r (λ_=>J) J J) Tryz.underlying22 (g 1 22 k rfl rfl) G<|UH b (m:=1) J rfl;have⟨P,ae,am⟩:=Ty (TA (sz:=1) Tryz.underlying30 J (Tz (g:=cH) Tryz.underlying5).r (λ_=>J) J J) Tryz.underlying30 (g 2 30 l rfl rfl) aa<|UH b (m:=2) J rfl;clear u y b;refine(ako (P:=[j,k,l]) (aqb T<|ab K N P ak al am) ⟨ad,F6,ae,trivial⟩).mono λe aq ⟨ag,d⟩=>?_
 subst ag;have t:=d.RF;exact⟨_,rfl,_,_,_,[],_,[],af,trodAll_mk1<|shut_bool Tryz.underlying4 _,ae8 al9 t J x,rfl,t.frame _,λh=>o0⟩
def asz(i:∀(a:E Int) (b:E Int) (d:E Int),zv (vZ W) a->zv (vZ W) b->zv (vZ cH) d->AA a b d=B T):Rows.TopStormSaid:=
 OpenClaim.holds_of_wide 4 Tryz.f4 rfl rfl rfl rfl rfl rfl rfl ⟨rfl,rfl,rfl,rfl,rfl⟩ rfl rfl rfl rfl rfl J Tryz.func4 (rowsAll al9)
  (f8 J) (by unfold Func.isWrapper;first|(rw[dE lK];kernel_rfl)|(rw[dA lK];exact⟨rfl,rfl⟩))
  (λj k H g _=>asy i j k H g)
theorem topStorm_holds:Rows.TopStormSaid:=asz λa b d _ _ h=>asc ajn a b d (am5 h.2)
end Go.Proofs.YtddmdeaegbfhaaaGreat
