/- Part 3 of what the proof of this law rests on. -/
import Derived.Test.YtddmdeaegbfhaaaGreatKUStorm2
namespace Go.Proofs.YtddmdeaegbfhaaaGreat
set_option linter.all false
set_option maxHeartbeats 40000000
set_option maxRecDepth 100000
open Go.RowKit
open _root_.Array renaming getElem?_eq_getElem->pu,getElem?_eq_some_iff->l4,length_toList->pz,toArray_toList->lF
open _root_.Bool renaming and_eq_true->fz,false->Z,true->T
open _root_.Eq renaming trans->Cn
open Go renaming Exit->fE,FuncId->gk,Oper->dy,Program->dw,Value->dp,World->d2
open Go.Extern.BytealgCompare renaming compare->Cm
open Go.Instr renaming indexAt->zM,sureAddr->qB
open Go.IntKind renaming i64->W,u16->fW,u32->e9,u64->cZ,u8->cH,wrap->U
open Go.Oper renaming upon->ly,wp->ln
open Go.Proofs.Tryz renaming prog->h6
open Go.Result renaming andThen_ok->gn
open Go.Sem renaming run->mZ,run_bind->g3,run_pure->hM
open Go.Value renaming ownBlock->n6
open _root_.Int renaming tmod->hc,toNat->cM
open _root_.List renaming getD->me,getElem?_cons_zero->rf,getElem?_eq_getElem->e6,getElem?_eq_some_iff->ie,getElem?_map->gy,getElem?_set->sa,length->F,length_map->fT,map->jv,map_congr_left->pw,map_cons->hx,map_eq_nil_iff->tq,map_map->xD,map_nil->jY,map_toArray->p5,mem_map->hT,replicate->fe,set->ir,take->f5
open _root_.List.cons renaming injEq->tm
open _root_.Nat renaming add_zero->jO,le_refl->jq,le_trans->mY,zero_add->gx
open _root_.Ne renaming symm->l5
open _root_.Option renaming bind->O,bind_eq_some_iff->jc,isSome_iff_exists->lb,map_eq_some_iff->gG,map_some->iq,none->M,some->B
open _root_.Option.some renaming inj->mg,injEq->h0
open _root_.Prod.mk renaming injEq->mh
open _root_.Sum renaming elim->ku,inl->dV,inr->du
noncomputable section
def G3{w aE:d2}{b:Nat->Nat->Prop}{e q n:Nat}{v:dp}{ae:E dp}(af:fL w b aE)(h:w.ownsRow 0 e q v n ae)(g:∀l y,v.ownBlock=B l->¬b l y):aE.ownsRow 0 e q v n ae:=by
 refine⟨h.1,?_⟩;rcases h.2 with cR|⟨aW,aV,ao,ab,d,a,i⟩
 .exact .inl cR
 .refine .inr ⟨aW,aV,ao,ab,d,?_,i⟩;rw[af.c_ (l4.1 a).1 (λy=>g aW y (by rw[ab];rfl))];exact a
def adC{w aE:d2}{e q n:Nat}{v:dp}{ae:E dp}(h:w.ownsRow 0 e q v n ae)(d:∀l,v.ownBlock=B l->aE.heap[l]?=w.heap[l]?):aE.ownsRow 0 e q v n ae:=by
 refine⟨h.1,?_⟩;rcases h.2 with cR|⟨aW,aV,ao,ab,a,b,g⟩
 .exact .inl cR
 .exact .inr ⟨aW,aV,ao,ab,a,by rw[d aW (by rw[ab];rfl)];exact b,g⟩
def s4(a:E V):E (E V):=a.map λc=>[c]
structure EM(rd:ez)(w:d2)(z:dp×dp)(e aD:Nat)(ae:E (E V))(P:Array dp):Prop where
 kF:z.2=.agg P
 l_:w.ownsRow 0 e 1 z.1 (F ae) P.toList
 row:∀(j:Nat) (p:dp) (a:E V),P[j]?=B p->ae[j]?=B a->∃d,w.ownsRow 0 aD 1 p (F a) d/\hK rd 1 d (s4 a)
 lR:∀(j m:Nat) (p b:dp) (l:Nat),j≠m->P[j]?=B p->P[m]?=B b->p.ownBlock=B l->b.ownBlock≠B l
 yX:∀(j:Nat) (p:dp) (l:Nat),P[j]?=B p->p.ownBlock=B l->z.1.ownBlock≠B l
def aby(z:dp×dp)(l:Nat):Prop:=z.1.ownBlock=B l\/∃P,z.2=.agg P/\∃(j:Nat) (p:dp),P[j]?=B p/\p.ownBlock=B l
def EM.len{rd:ez}{w:d2}{z:dp×dp}{e aD:Nat}{ae:E (E V)}{P:Array dp}(h:EM rd w z e aD ae P):P.size=F ae:=by have:=h.l_.1;rw[pz]at this;omega
theorem EM.Gd{rd:ez}{w:d2}{z:dp×dp}{e aD:Nat}{ae:E (E V)}{P:Array dp}(h:EM rd w z e aD ae P){j:Nat}{p:dp}(aA:P[j]?=B p):∃a b,ae[j]?=B a/\w.ownsRow 0 aD 1 p (F a) b/\hK rd 1 b (s4 a):=by have hi:=(l4.1 aA).1;rw[h.len]at hi;have⟨b,G,d⟩:=h.row j p _ aA<|e6 hi;exact ef
def jN(e aD:Nat)(ae:E (E V)):OJ where
 F3:=aby
 gg:=λrd w z=>∃P,EM rd w z e aD ae P
 mono:=λk ⟨P,h⟩=>⟨P,h.kF,h.l_,λj p a aA d=>let⟨i,G,g⟩:=h.row j p a aA d;⟨i,G,g.mono k⟩,h.lR,h.yX⟩
 lt:=by
  rintro rd w z l ⟨P,h⟩ (b|⟨m,G,j,p,aA,b⟩)
  .exact(h.l_.m).lt l b
  .rw[h.kF]at G;cases G;have⟨a,i,_,g,_⟩:=h.Gd aA;exact g.m.lt l b
 gJ:=by rintro rd w aE z aj ⟨P,h⟩;refine⟨P,h.kF,adC h.l_ λl b=>aj l<|.inl b,λj p a aA d=>?_,h.lR,h.yX⟩;have⟨i,G,g⟩:=h.row j p a aA d;exact⟨i,adC G λl b=>aj l<|.inr ⟨P,h.kF,j,p,aA,b⟩,g⟩
variable{K:fb}{w:d2}{n:Nat}{t:Act}{q:cP}{x:dY}
def gW.amT(h:gW K x n t w q)(i e aD:Nat)(b:i<1000000)(d:nh q i M):gW K (x.iP i (.slice M 0 0,.agg #[]) (0,0)) n t w (q.f3 i (.g7 (jN e aD []))):=
 (h.add (ai:=x.iP i (.slice M 0 0,.agg #[]) (0,0)) (aE:=w) (r:=.g7<|jN e aD []) b d (λe am=>yA) (Ext.refl w) (λl y a=>by
   simp only[er,jN,aby,dY.iP,if_true]at a;rcases a with a|⟨P,G,j,p,aA,_⟩
   .cases a
   .cases G;simp at aA) (λg=>⟨#[],rA,by simpa[dY.iP]using World.ownsRow_nil w 0 e 1,dh,dh,dh⟩)).1
def GD(q:cP)(l m i e aD:Nat):X cP:=match q.lj l with
 |some a=>match a[m]? with
  |some (.cY (.slice M 0 0))=>if decide (i<1000000)&&q.sX i M&&l !=i then B ((q.f3 i<|.g7<|jN e aD []).f3 l<|.box<|a.set m<|.dk i)else M
  |_=>M
 |none=>M
def R.GD{ao:cP}(h:R K n t w q){l m i e aD:Nat}(aj:GD q l m i e aD=B ao):R K n t w ao:=by
 have⟨x,h⟩:=h;unfold Go.Proofs.YtddmdeaegbfhaaaGreat.GD at aj;split at aj
 .rename_i b cN;split at aj
  .rename_i aw;split at aj
   .rename_i ap;simp only[fz,i6,bne_iff_ne]at ap;cases aj;have G:=h.amT i e aD ap.1.1<|vP ap.1.2;refine⟨_,G.G_ (l:=l) (d:=b) Xp dh λj a o d ad p aA=>?_⟩;rw[sa]at ad;split at ad
    .rename_i g;subst g;split at ad
     .cases ad;rw[aw]at d;cases d;have:p=.slice M 0 0:=hw (x:=x.iP i (.slice M 0 0,.agg #[]) (0,0)) aA;subst this;exact⟨rA,.inl ⟨M,0,0,rA⟩⟩
     .cases ad
    .rw[d]at ad;cases ad;exact aA
   .cases aj
  .cases aj
 .cases aj
def Gu(e aD:Nat){ag:Type}(f:ag->V)(s:E (E ag)):eD:=.g7 (jN e aD (s.map λa=>a.map f))
theorem R.amt(h:R K n t w q){i e aD:Nat}{ae:E (E V)}(cN:cO q.Y i=B (.g7 (jN e aD ae))):R K n t w (q.f3 i (.row e 1 (F ae) (ae.map λa=>[.d_ 1 0 (F a) (s4 a)]))):=by
 have⟨x,h⟩:=h;have⟨P,k⟩:=h.eV.gg i _ cN;refine⟨x,(h.fo (r:=.row e 1 (F ae) (ae.map λa=>[.d_ 1 0 (F a)<|s4 a])) (aE:=w) cN (λl y aa=>.inl aa) (fL.refl _ _) cU (λ_=>rfl) λah=>⟨P.toList,k.l_,dh,?_,?_⟩).1⟩
 .intro a d;obtain⟨o,_,rfl⟩:=hT.1 d;rfl
 .intro j a m o d ad;rw[gy]at d;obtain⟨aj,D,rfl⟩:=gG.1 d;cases m with
  |succ m=>simp at ad
  |zero=>
   simp only[rf,h0]at ad;subst ad;have hi:j<P.size:=by rw[k.len];exact(ie.1 D).1
   have aA:=pu hi;refine⟨P[j],by simp[hi],?_⟩;have⟨ai,G,S⟩:=k.row j _ _ aA D;have⟨bb,a4,a0,bc,a9,a5,a7⟩:=kK G;rw[a0];rcases a7 with dI|⟨b,ag,s⟩
   .have d:aj=[]:=List.eq_nil_of_length_eq_zero dI;subst d;exact .nil 1 _ _ a9
   .rw[ag];refine B6 (l:=b) (aF:=ai) (S.mono ah) (by simp[s4]) bc a9 (λg v ab af=>?_);have z:=G.cells s g v ab;rw[iS,gx]at z;have A:er x i (.g7<|jN e aD ae) b g:=.inr ⟨P,k.kF,j,_,aA,s⟩;unfold fd;rw[dA,dA (λC=>(h.eV.iA i _ cN rfl b g A).elim (λau=>Nat.not_lt.2 au C.1) C.2)]
    .exact z
    .rintro⟨Q,ak,p,N⟩;rw[kZ]at p;split at p
     next u=>subst u;cases p;exact k.yX j _ b aA s N
     next u=>exact h.eV.lR Q i ak _ b g (l5 u) p cN N A
variable{u:dw}{y:dy}
def Sr(u:dw)(q:cP)(y:dy):X (Nat×Int):=match y.op with
 |.indexAddr g a o=>match dZ q a,dZ q o,u.underlying g with
  |some (.c (.dk i)),B (.c (.cY (.int _ j))),B (.slice b)=>match u.info? b with
   |some d=>if d.size=1 then B (i,j)else M
   |none=>M
  |_,_,_=>M
 |_=>M
def alj{ag:Type}{i e aD:Nat}{f:ag->E V}{s:E ag}{j:Int}{a:ag}(d:di s j=B a)(h:Sr u q y=B (i,j))(cN:cO q.Y i=B (.g7 (jN e aD (s.map f)))):jP u y q (.c (.hn i 1 j.toNat 0)):=by
 unfold Sr at h;split at h;rotate_left;cases h;rename_i S z A cK;split at h;rotate_left;cases h;rename_i C Q K D p ad aA;split at h;rotate_left;cases h;rename_i N k;split at h;rotate_left;cases h;rename_i aU;cases h;refine iH.jC λx rd ak w g=>?_
 have⟨ab,_⟩:=g.op z _ hD p;have t:=hw<|g.op A _ hD ad;have⟨P,o⟩:=g.gg i _ cN;have⟨dI,hi⟩:=F9 d;have aX:=(ie.1 hi).1;have⟨bb,a4,a0,bc,a9,a5,a7⟩:=kK o.l_;rw[fT]at a0 a7;rcases a7 with b|⟨l,b,_⟩
 .omega
 have m:j<(F s:Int):=I;refine⟨.pointer<|B ⟨l,j.toNat,M⟩,?_,?_⟩
 .subst b;rw[a0]at ab;simp[execOp,cK,t,ab,zM,asIntOf,run_underlying aA,dI,m,sizeOf,typeInfo,k,iS,aU]
 .exact⟨l,_,_,by rw[a0,b],dh⟩
def SK(b:dw)(q:cP)(y:dy):X (TypeId×Nat×Nat):=match y.op with
 |.load a z=>match dZ q z with
  |some (.c (.hn i 1 j 0))=>B (a,i,j)
  |_=>M
 |_=>M
def alk{ag:Type}{k:TypeId}{i e aD j:Nat}{f:ag->E V}{s:E ag}{a:ag}(d:s[j]?=B a)(h:SK u q y=B (k,i,j))(cN:cO q.Y i=B (.g7 (jN e aD (s.map f))))(D:nw u k [.hV i j M]=B (.c (.hV i j M))):jP u y q (.c (.hV i j M)):=by
 unfold SK at h;split at h;rotate_left;cases h;rename_i ab z cK;split at h;rotate_left;cases h;rename_i Q aa Y;cases h;refine iH.jC λx rd ak w g=>?_
 have⟨l,N,c,G,t⟩:=g.op z _ hD Y;have⟨P,b⟩:=g.gg i _ cN;have A:(x.dM i).1.ownBlock=B l:=Lk;have S:=(ie.1 d).1;have a_:=b.len;rw[fT]at a_;have aA:=pu (xs:=P) (i:=j) I;have⟨af,ae,_,K,_⟩:=b.Gd aA;have⟨bb,a4,a0,_⟩:=kK K;have C:∀m o,([V.hV i j M]:E V)[m]?=B o->∃an,w.cell? ⟨l,j*1+0+m,M⟩=B an/\fA rd x an o:=by
  intro m o ad;cases m with
  |succ m=>simp at ad
  |zero=>simp only[rf,h0]at ad;subst ad;have:=b.l_.cells A j P[j] dh;rw[iS,gx]at this;exact⟨_,by simpa using this,P,_,b.kF,aA,rfl,bb,_,a4,a0⟩
 have⟨p,aC,au⟩:=NI (u:=u) D C;exact⟨p,by simp[execOp,cK,t,Instr.loadAt,qB]at aC⊢;simp[aC],au⟩
def Sq(u:dw)(q:cP)(y:dy):X (Nat×Nat×Int):=match y.op with
 |.indexAddr g a o=>match dZ q a,dZ q o,u.underlying g with
  |some (.c (.hV i j M)),B (.c (.cY (.int _ m))),B (.slice b)=>match u.info? b with
   |some d=>if d.size=1 then B (i,j,m)else M
   |none=>M
  |_,_,_=>M
 |_=>M
theorem ali{ag:Type}{i e aD j:Nat}{f:ag->V}{s:E (E ag)}{a:E ag}{m:Int}{o:ag}(d:s[j]?=B a)(ad:di a m=B o)(h:Sq u q y=B (i,j,m))(cN:cO q.Y i=B (.g7 (jN e aD (s.map λa=>a.map f)))):jP u y q (.c (.hV i j (B m.toNat))):=by
 unfold Sq at h;split at h;rotate_left;cases h;rename_i ao Q S cK;split at h;rotate_left;cases h;rename_i af ai z al ah D N aA;split at h;rotate_left;cases h;rename_i aj A;split at h;rotate_left;cases h;rename_i aU;cases h;refine iH.jC λx rd ak w k=>?_
 have⟨P,p,G,t,ab,aa,an,ae,a_⟩:=k.op Q _ hD D;have K:=hw<|k.op S _ hD N;have⟨ap,g⟩:=k.gg i _ cN;rw[g.kF]at G;cases G;have⟨aq,z,am⟩:=g.row j p (a.map f) t cU;have⟨dI,hi⟩:=F9 ad;have aX:=(ie.1 hi).1;have⟨bb,a4,a0,bc,a9,a5,a7⟩:=kK z;rw[fT]at a0 a7;rcases a7 with b|⟨l,b,_⟩
 .omega
 have C:m<(F a:Int):=I;refine⟨.pointer<|B ⟨l,m.toNat,M⟩,?_,P,p,g.kF,t,l,_,_,by rw[a0,b],rfl⟩;subst b;rw[a0]at ab;simp[execOp,cK,K,ab,zM,asIntOf,run_underlying aA,dI,C,sizeOf,typeInfo,A,iS,aU]
def Uh(u:dw)(q:cP)(y:dy):X (Nat×Nat×Nat×V):=match y.op with
 |.store d z a=>match dZ q z,dZ q a with
  |some (.c (.hV i j (B m))),B v=>match(cellsOf v).bind y6,u.info? d,y.dst with
   |some [c],B b,M=>if b.size=1 then B (i,j,m,c)else M
   |_,_,_=>M
  |_,_=>M
 |_=>M
def asP{ag:Type}{i e aD j m:Nat}{c:V}{f:ag->V}{s:E (E ag)}{a:E ag}{aF:ag}(d:s[j]?=B a)(aw:m<F a)(aH:c=f aF)(G:c.one=T)(h:Uh u q y=B (i,j,m,c))(cN:cO q.Y i=B (.g7 (jN e aD (s.map λa=>a.map f)))):
  qh u y q i (.g7 (jN e aD (s.map λa=>a.map f))) (.g7 (jN e aD ((s.set j<|a.set m aF).map λa=>a.map f))) (.eu []):=by
 unfold Uh at h;split at h;rotate_left;cases h;rename_i bl z ae cK;split at h;rotate_left;cases h;rename_i bd ay bg v Y aZ;split at h;rotate_left;cases h;rename_i ba bf aM kq aN;split at h;rotate_left;cases h;rename_i aU;cases h;refine⟨cN,rfl,λ_ _ _ aO=>aO,λx rd ak w ah=>?_⟩;have⟨P,p,aB,K,l,bj,bb,a1,a2⟩:=ah.op z _ hD Y;have⟨bm,b⟩:=ah.gg i _ cN;rw[b.kF]at aB;cases aB;have aS:(s.map λa=>a.map f)[j]?=B (a.map f):=by rw[gy,d];rfl
 have⟨al,S,aG⟩:=b.row j p _ K aS;have t:p.ownBlock=B l:=by rw[a1];rfl
 have⟨bc,aI,aJ⟩:=jc.1 aM;have ar:=B4 (ah.op ae _ hD aZ) aI;have⟨ay,D⟩:=Ga _ _ aJ;have a5:F (ak.eval ae).cells.toList=1:=by rw[pz,ar.1,ay];rfl
 obtain⟨an,N⟩:∃an,(ak.eval ae).cells.toList=[an]:=List.length_eq_one_iff.1 a5;have ax:h2 rd an c:=by have⟨a8,aC,au⟩:=D 0 c rfl;have⟨p,aL,aT⟩:=ar.2 0 a8 aC;have aK:(ak.eval ae).cells.toList[0]?=B p:=Xt;rw[N]at aK;cases aK;exact Gb aT au
 have aY:=S.1;rw[fT,Nat.mul_one]at aY;have av:=run_storeCells_cells (P:=u) l m [an] 0 w
  (λaz am=>by
    have aQ:az=0:=by simpa using am
    subst aQ;have:=S.cells t m _ (e6 I);rw[iS,gx]at this;simp only[jO];rw[this];rfl)
  (λaz am=>by
    rcases S.2 with⟨C,_⟩|⟨aW,aV,ao,aC,_,au,_⟩
    .rw[C]at t;cases t
    .rw[aC]at t;cases t;simp[World.frozen?,au])
  (λp aA=>by rw[List.mem_singleton.1 aA];exact Nr ax G)
 simp only[jO]at av;have⟨a3,ai⟩:=vS S t m [an] fv;have aX:∀k Q,p.ownBlock=B k->er x i (.g7 (jN e aD (s.map λa=>a.map f))) k Q:=λk _ h=>.inr ⟨P,b.kF,j,p,K,h⟩
 have aP:=(ie.1 d).1;refine⟨.skip,_,?_,ai.kN λk Q h=>aX k Q h,.inl ⟨rfl,aN⟩,λbk af=>⟨P,b.kF,?_,λg aE a7 aa A=>?_,b.lR,b.yX⟩⟩
 .simp only[execOp,cK,a2,Instr.storeAt,qB,storeVar,sizeOf,typeInfo,program,kq,g3,hM,mZ,gn];rw[dA ahq];simp only[gn,N,av]
 .have:=G3 ai b.l_ (λk Q h C=>b.yX j p k K C h);simpa using this
 .rw[gy,sa]at A;by_cases ap:j=g
  .subst ap;rw[dE rfl,dE aP]at A;simp only[iq,h0]at A;subst A;rw[K]at aa;cases aa;refine⟨al.take m++[an]++al.drop (m+F [an]),by simpa only[fT,List.length_set]using a3,?_⟩;refine⟨λo ad=>?_,λD bo ab a_ ad bh=>?_⟩
   .obtain⟨bn,_,rfl⟩:=hT.1 ad;rfl
   .unfold s4 at ad;rw[gy,gy,sa]at ad;have aj:=Ug al [an] m fv<|D*1+ab;rw[aj];by_cases aq:m=D
    .subst aq;rw[dE rfl,dE aw]at ad;simp only[iq,h0]at ad;subst ad;cases ab with
     |succ ab=>simp at bh
     |zero=>simp only[rf,h0]at bh;subst bh;rw[dE dh];exact⟨an,dh,aH▸ax.mono af⟩
    .rw[dA aq]at ad;obtain⟨a9,a0,rfl⟩:=gG.1 ad;have aR:ab=0:=by have:=(ie.1 bh).1;simpa using this
     subst aR;rw[dA fv];have⟨a4,aC,au⟩:=aG.2 D [a9] 0 a_ (by unfold s4;rw[gy,gy,a0];rfl) bh;exact⟨a4,aC,au.mono af⟩
  .rw[dA ap,<-gy]at A;have⟨a6,aC,au⟩:=b.row g aE a7 aa A;exact⟨a6,G3 ai aC λk Q h C=>b.lR j g p aE k ap K aa C h,au.mono af⟩
def V.tT(z:Nat->Bool)(a:V):V:=if a.fn z then a else .any
def fA.ai_{rd b:ez}(j:rd.gU b){x ai:dY}(z:Nat->Bool)(h:∀i,z i=T->ai.dn i=x.dn i/\ai.dM i=x.dM i){v:dp}{a:V}(g:fA rd x v a):fA b ai v (a.tT z):=by
 unfold V.tT;split
 next d=>exact g.sR j z h d
 .trivial
variable{ai:dY}{aE:d2}
theorem gW.asD(h:gW K x n t w q){i g:Nat}{eM u r:eD}(an:i≠g)(cN:cO q.Y i=B eM)(au:cO q.Y g=B u)(ar:∀e,e≠i->e≠g->ai.dn e=x.dn e/\ai.dM e=x.dM e)
  (af:fL w (λl y=>er x i eM l y\/er x g u l y) aE)(ad:∀l y,er ai i r l y->(er x i eM l y\/er x g u l y)\/w.heap.size<=l)(aB:∀al,r≠.box al)(av:eM.kr=Z)(aw:u.kr=Z)
  (ae:(fd K x q.Y w).gU (fd K ai (hB i r (pS (q.iJ (V.tT λe=>e !=i&&e !=g)).Y g)) aE)->iv (fd K ai (hB i r (pS (q.iJ (V.tT λe=>e !=i&&e !=g)).Y g)) aE) ai aE i r):
  gW K ai n t aE ⟨(q.iJ (V.tT λe=>e !=i&&e !=g)).tmps,hB i r (pS (q.iJ (V.tT λe=>e !=i&&e !=g)).Y g)⟩/\(fd K x q.Y w).gU (fd K ai (hB i r (pS (q.iJ (V.tT λe=>e !=i&&e !=g)).Y g)) aE):=by
 generalize aj:V.tT (λe=>e !=i&&e !=g)=A
 let b:fK:=hB i r<|pS (q.iJ A).Y g;have aq:cO b i=B r:=agx;have ah:∀e a,e≠i->cO b e=B a->e≠g/\∃o,cO q.Y e=B o/\a=o.map A:=by
  intro e a P d;simp only[b,kZ]at d;rw[dA dd,t6]at d;split at d
  .cases d
  next aA=>simp only[cP.iJ,sT (λa=>eD.map A a)]at d;have⟨o,G,b⟩:=gG.1 d;exact cU
 let D:Nat->Bool:=λe=>e==i||e==g
 have C:∀e,D e=Z->e≠i/\e≠g:=λe h=>QA
 have az:∀e,D e=T->e=i\/e=g:=λe h=>QA
 have aC:D i=T:=QL;have aD:D g=T:=QL;have ap:cO b g=M:=by simp only[b,kZ];rw[dA an,t6,dE rfl]
 have Q:∀e a,D e=T->cO b e=B a->e=i/\a=r:=by
  intro e a G d;rcases az e G with rfl|rfl
  .rw[aq]at d;cases d;exact cU
  .rw[ap]at d;cases d
 have P:∀e a,D e=Z->cO q.Y e=B a->ai.dn e=x.dn e/\ai.dM e=x.dM e:=λe a G _=>ar e (C e G).1 (C e G).2
 have ag:fL w (λl y=>∃e a,D e=T/\cO q.Y e=B a/\er x e a l y) aE:=af.kN ef;have aa:∀e a l y,D e=T->cO b e=B a->er ai e a l y->(∃N ak,D N=T/\cO q.Y N=B ak/\er x N ak l y)\/w.heap.size<=l:=by
  intro e a l y G m k;obtain⟨rfl,rfl⟩:=Q e a G m;rcases ad l y k with(s|s)|s
  .exact .inl ef
  .exact .inl ef
  .exact .inr s
 have S:=ui (K:=K) (x:=x) (ai:=ai) (w:=w) (aE:=aE) (h:=q.Y) (aF:=b) h.eV D P (λe a G m=>let⟨_,o,k,s⟩:=ah e a (C e G).1 m;ef) ag aa;have am:∀p a,fA (fd K x q.Y w) x p a->fA (fd K ai b aE) ai p (A a):=by intro p a d;rw[<-aj];exact d.ai_ S _ cU
 rw[aj]at ae;have ay:=h.eV.step (ai:=ai) (aE:=aE) (aF:=b) D A (λ_=>T) P (λe a G m=>let⟨_,o,k,s⟩:=ah e a (C e G).1 m;⟨o,k,s,o.qW⟩) ag aa
  ef cU
  (λe a G m=>by obtain⟨rfl,rfl⟩:=Q e a G m;exact ae S)
  ef
  (λe a G m _ l y ao=>by
    obtain⟨rfl,rfl⟩:=Q e a G m;rcases ad l y ao with(k|k)|k
    .exact h.eV.iA e eM cN av l y k
    .exact h.eV.iA g u au aw l y k
    .exact .inl<|mY h.eV.gJ.size k)
 refine⟨⟨h.defers,h.size,h.oo,ay,λD v ab=>?_⟩,S⟩;simp only[cP.iJ,sT (λv=>cT.map A v)]at ab;obtain⟨j,ax,rfl⟩:=gG.1 ab;have⟨p,G,b⟩:=h.tmps D j ax;exact⟨p,G,b.imp (z:=λ_=>T) (λv a _ d=>am v a d) j.qW⟩
variable{ops:Array dy}
def Rz(u:dw)(q:cP)(y:dy):X (Nat×Nat×Nat×Nat):=match y.op with
 |.call {callee:=.builtin .append,args:=ae,argTypes:=k}=>match ae.toList,k.toList with
  |[a,o],[d,j]=>match u.underlying d with
   |some (.slice e)=>match u.info? e with
    |some b=>match dZ q a,dZ q o with
     |some (.c (.dk i)),B (.c (.dk g))=>if d=j/\b.zero.map (·.cells.size)=B b.size/\b.size=1/\i≠g then B (i,g,e,b.bytes)else M
     |_,_=>M
    |none=>M
   |_=>M
  |_,_=>M
 |_=>M
def cP.SA(q:cP)(i g:Nat)(r:eD):cP:=⟨(q.iJ (V.tT λe=>e !=i&&e !=g)).tmps,hB i r (pS (q.iJ (V.tT λe=>e !=i&&e !=g)).Y g)⟩
theorem ahI{ag:Type}{i g e aD aH:Nat}{f:ag->E V}{Q s aZ:E ag}(aq:ej aH Q s=B aZ)(aS:(F s !=0)=T)(h:Rz u q y=B (i,g,e,aH))(cN:cO q.Y i=B (.g7 (jN e aD (Q.map f))))(az:cO q.Y g=B (.g7 (jN e aD (s.map f))))(bh:hF ops y q=B T)(bg:jB n y=T):
  km u K n ops y q ((q.SA i g<|.g7<|jN e aD<|aZ.map f).put y.dst<|.c<|.dk i):=by
 unfold Rz at h;split at h;rotate_left;cases h;rename_i ae a2 cK;split at h;rotate_left;cases h;rename_i a o a1 bx bt bn;have bu:ae= #[a,o]:=by rw[<-lF (xs:=ae),bt]
 have bo:a2= #[a1,bx]:=by rw[<-lF (xs:=a2),bn]
 subst bu;subst bo;split at h;rotate_left;cases h;rename_i aG aA;split at h;rotate_left;cases h;rename_i aW hi;split at h;rotate_left;cases h;rename_i bE aX d ad;split at h;rotate_left;cases h;rename_i ap;obtain⟨rfl,N,bl,aN⟩:=ap;cases h;have⟨an,N,bH⟩:=gG.1 N;simp only[ej]at aq;split at aq;rotate_left;cases aq;rename_i b;cases aq;refine nj bh λx t w r bz ah a_=>?_
 have aV:=r.kM.o y;have⟨bq,_⟩:=aV.op a _ ml d;have⟨br,_⟩:=aV.op o _ ml ad;have⟨A,D⟩:=r.eV.gg i _ cN;have⟨S,aa⟩:=r.eV.gg g _ az;have Y:0<F s:=by simp at aS;exact List.length_pos_iff.2 aS
 have⟨bb,a4,a0,bc,a9,a5,a7⟩:=kK D.l_;have⟨a3,a8,iU,aM,bF,bs,aJ⟩:=kK aa.l_;have aU:=D.len;have bm:=aa.len;rw[fT]at a0 a5 a7 iU bs aJ aU bm;have aO:=D.l_;have aQ:=aa.l_;rw[fT]at aO aQ;obtain⟨a6,aR,bf⟩:∃l,a3=B ⟨l,0,M⟩/\(x.dM g).1.ownBlock=B l:=aJ.resolve_left I;have am:∀l y,er x i (.g7<|jN e aD<|Q.map f) l y->¬er x g (.g7<|jN e aD<|s.map f) l y:=λl y=>r.eV.lR i g _ _ l y aN cN az
 have bv:∀p∈S.toList,p.oneCell'=T:=by intro p aA;have⟨j,hi⟩:=List.getElem?_of_mem aA;have⟨a,av,_,aX,_⟩:=aa.Gd (j:=j) (p:=p) cU;have⟨bA,bC,ba,_⟩:=kK aX;rw[ba];rfl
 have⟨aY,aE,aC,au,aL,aT⟩:=T4 (u:=u) a1 y.type e aW an 1 aW.bytes aA hi N bl rfl dd I _ _ _ aO ⟨a6,0,M⟩ (F s) a8 S.toList cU (λm p aw=>aQ.cells bf m p aw) bv Y wI b.1;unfold ln;simp only[execOp,cK,resolve,invoke,builtin,g3,hM,gn,p5,hx,jY];rw[bq,br,iU,aR,aC];simp only[gn,ly];have⟨bB,bD,bd,_,_,_,_⟩:=kK au
 let ai:dY:={dn:=x.dn,dM:=λe=>if e=i then(aY,.agg<|A++S)else x.dM e};have z:ai.dM i=(aY,.agg<|A++S):=E4;have aP:F (Q++s)=F Q+F s:=List.length_append;have ab:∀(j:Nat) (p:dp),(A++S)[j]?=B p->(A[j]?=B p/\j<A.size)\/(S[j-A.size]?=B p/\A.size<=j):=by
  intro j p aA;rw[Array.getElem?_append]at aA;split at aA
  .exact .inl cU
  .exact .inr cU
 have bk:fL w (λl y=>er x i (.g7<|jN e aD<|Q.map f) l y\/er x g (.g7<|jN e aD<|s.map f) l y) aE:=aL.kN λl y h=>.inl<|.inl h.1
 have aF:∀(j:Nat) (p:dp) (l:Nat),A[j]?=B p->p.ownBlock=B l->∀y,er x i (.g7<|jN e aD<|Q.map f) l y:=λj p l aA b y=>.inr ⟨A,D.kF,j,p,aA,b⟩
 have al:∀(j:Nat) (p:dp) (l:Nat),S[j]?=B p->p.ownBlock=B l->∀y,er x g (.g7<|jN e aD<|s.map f) l y:=λj p l aA b y=>.inr ⟨S,aa.kF,j,p,aA,b⟩
 have aK:∀aB,(fd K x q.Y w).gU aB->iv aB ai aE i (.g7<|jN e aD<|(Q++s).map f):=by
  intro aB aj;refine⟨A++S,E7,by rw[z,fT,aP,Array.toList_append];exact au,λj p a aA d=>?_,λj m p ak l bj aA bp b ao=>?_,λj p l aA b aI=>?_⟩
  .rw[List.map_append,List.getElem?_append,fT]at d;rcases ab j p aA with⟨G,ax⟩|⟨G,ax⟩
   .rw[dE I]at d;have⟨av,k,af⟩:=D.row j p a G d;exact⟨av,G3 aL k λl y b C=>D.yX j p l G b C.1,af.mono aj⟩
   .rw[dA I]at d;have⟨av,k,af⟩:=aa.row (j-A.size) p a G (by rw[aU];exact d);exact⟨av,G3 aL k λl y b C=>am l y (.inl C.1)<|al _ p l G b y,af.mono aj⟩
  .rcases ab j p aA with⟨G,ax⟩|⟨G,ax⟩<;>rcases ab m ak bp with⟨k,af⟩|⟨k,af⟩
   .exact D.lR j m p ak l bj G k b ao
   .exact am l 0 (aF j p l G b 0)<|al _ ak l k ao 0
   .exact am l 0 (aF m ak l k ao 0)<|al _ p l G b 0
   .exact aa.lR _ _ p ak l I G k b ao
  .rw[z]at aI;have bG:l<w.heap.size:=by
    rcases ab j p aA with⟨G,_⟩|⟨G,_⟩
    .have⟨_,_,_,k,_⟩:=D.Gd G;exact k.m.lt l b
    .have⟨_,_,_,k,_⟩:=aa.Gd G;exact k.m.lt l b
   rcases aT l aI with ay|ay
   .rcases ab j p aA with⟨G,_⟩|⟨G,_⟩
    .exact D.yX j p l G b ay
    .exact am l 0 (.inl ay)<|al _ p l G b 0
   .omega
 have⟨bw,aj⟩:=r.asD (ai:=ai) (aE:=aE) (r:=.g7<|jN e aD<|(Q++s).map f) aN cN az ef bk (λl bI ar=>by
   rcases ar with ar|⟨P,G,j,p,aA,b⟩
   .rw[z]at ar;exact(aT l ar).imp (λh=>.inl<|.inl h) id
   .rw[z]at G;cases G;rcases ab j p aA with⟨G,_⟩|⟨G,_⟩
    .exact .inl ef
    .exact .inl ef) (λ_ C=>lL) rfl rfl (λaj=>aK _ aj)
 refine a_ _ _ ⟨ai,gW.put (q:=q.SA i g _) bw y.dst (nG bg) ?_⟩;simp only[fM,fA,ea];rw[z];exact⟨rfl,.inl ⟨_,_,_,bd⟩⟩
def BB(u:dw)(q:cP)(y:dy):X (Nat×Nat×Nat×Nat×E (E V)):=match y.op with
 |.buildSlice d 1 jF=>match jF.toList,u.underlying d with
  |[(0,a)],B (.slice e)=>match dZ q a,u.info? e with
   |some (.c (.dk g)),B b=>match cO q.Y g with
    |some (.row aD 1 Q ae)=>if b.size=1/\b.zero.isSome then B (g,e,aD,Q,ae)else M
    |_=>M
   |_,_=>M
  |_,_=>M
 |_=>M
def ze:OJ where
 F3:=λ_ _=>False
 gg:=λ_ _ _=>True
 mono:=λ_ h=>h
 lt:=λ_ h=>h.elim
 gJ:=λ_ h=>h
def gW.asE{x ai:dY}{t:Act}{w aE:d2}(h:gW K x n t w q){i g:Nat}{u r:eD}(aw:i≠g)(aD:i<1000000)(Q:nh q i M)(ah:cO q.Y g=B u)(aB:u.kr=Z)(ar:∀e,e≠i->ai.dn e=x.dn e/\ai.dM e=x.dM e)
  (af:fL w (er x g u) aE)(al:∀l y,er ai i r l y->er x g u l y\/w.heap.size<=l)(aA:∀ae,r≠.box ae)
  (az:(fd K x q.Y w).gU (fd K ai (hB g (.g7 ze)<|hB i r (q.iJ<|V.hv g).Y) aE)->iv (fd K ai (hB g (.g7 ze)<|hB i r (q.iJ<|V.hv g).Y) aE) ai aE i r):
  gW K ai n t aE ⟨(q.iJ<|V.hv g).tmps,hB g (.g7 ze)<|hB i r (q.iJ<|V.hv g).Y⟩/\(fd K x q.Y w).gU (fd K ai (hB g (.g7 ze)<|hB i r (q.iJ<|V.hv g).Y) aE):=by
 let b:fK:=hB g (.g7 ze)<|hB i r (q.iJ<|V.hv g).Y;have ad:cO b i=B r:=by simp only[b,kZ,dA (l5 aw),if_true]
 have A:cO b g=B (.g7 ze):=agx;have an:∀e a,e≠i->e≠g->cO b e=B a->∃o,cO q.Y e=B o/\a=o.map (V.hv g):=by intro e a aa ax d;simp only[b,kZ,dA (l5 ax),dA (l5 aa)]at d;simp only[cP.iJ,sT (λa=>eD.map (V.hv g) a)]at d;have⟨o,G,b⟩:=gG.1 d;exact⟨o,G,b.symm⟩
 let D:Nat->Bool:=λe=>e==i||e==g
 have S:∀e,D e=Z->e≠i/\e≠g:=λe h=>QA
 have N:∀e,D e=T->e=i\/e=g:=λe h=>QA
 have aq:D g=T:=QL;have aa:∀e a,D e=Z->cO q.Y e=B a->ai.dn e=x.dn e/\ai.dM e=x.dM e:=λe a G _=>ar e (S e G).1
 have am:fL w (λl y=>∃e a,D e=T/\cO q.Y e=B a/\er x e a l y) aE:=af.kN λl y a=>⟨g,u,aq,ah,a⟩
 have ak:∀e a l y,D e=T->cO b e=B a->er ai e a l y->(∃P ap,D P=T/\cO q.Y P=B ap/\er x P ap l y)\/w.heap.size<=l:=by
  intro e a l y G k m;rcases N e G with rfl|rfl
  .rw[ad]at k;cases k;exact(al l y m).imp (λs=>⟨g,u,aq,ah,s⟩) id
  .rw[A]at k;cases k;exact m.elim
 have ag:=ui (K:=K) (x:=x) (ai:=ai) (w:=w) (aE:=aE) (h:=q.Y) (aF:=b) h.eV D aa (λe a G k=>let⟨o,m,s⟩:=an e a (S e G).1 (S e G).2 k;⟨o,V.hv g,m,s⟩) am ak;have aj:∀p a,a.fn (·!=i)=T->fA (fd K x q.Y w) x p a->fA (fd K ai b aE) ai p (a.hv g):=by intro p a d ay;have G:fA (fd K ai b aE) ai p a:=ay.sR ag (·!=i) (λe C=>ar e EU) d;exact G.hv (ez.gU.refl _) (ai:=ai) (d0:=g) ⟨λ_=>rfl,λ_ _=>rfl,λ_=>rfl⟩
 have aC:=h.eV.step (ai:=ai) (aE:=aE) (aF:=b) D (V.hv g) (V.fn (·!=i)) aa (λe a G k=>let⟨o,m,s⟩:=an e a (S e G).1 (S e G).2 k;⟨o,m,s,Q.2.2 e o m⟩) am ak
  (λe P a aF l y G m aR k s au av=>by
    rcases N e G with rfl|rfl<;>rcases N P m with rfl|rfl
    .exact aR rfl
    .rw[A]at s;cases s;exact av
    .rw[A]at k;cases k;exact au
    .exact aR rfl) (λp a G d=>aj p a G d)
  (λe a G k=>by
    rcases N e G with rfl|rfl
    .rw[ad]at k;cases k;exact az ag
    .rw[A]at k;cases k;trivial)
  (λe ae G _ k=>by
    rcases N e G with rfl|rfl
    .rw[ad]at k;cases k;exact absurd rfl (aA ae)
    .rw[A]at k;cases k)
  (λe a G k _ l y Q=>by
    rcases N e G with rfl|rfl
    .rw[ad]at k;cases k;rcases al l y Q with m|m
     .exact h.eV.iA g u ah aB l y m
     .exact .inl<|mY h.eV.gJ.size m
    .rw[A]at k;cases k;exact Q.elim)
 refine⟨⟨h.defers,h.size,h.oo,aC,λD v ab=>?_⟩,ag⟩;simp only[cP.iJ,sT (λv=>cT.map (V.hv g) v)]at ab;obtain⟨j,ao,rfl⟩:=gG.1 ab;have⟨p,G,b⟩:=h.tmps D j ao;exact⟨p,G,b.imp (z:=V.fn (·!=i)) (λv a d ay=>aj v a d ay)<|Q.2.1 D j ao dh⟩
def MR(ao:cP)(i g e aD:Nat)(a:E V):ec:=⟨ao,B i,.c (.dk i),B (i,.g7 (jN e aD [a])),T,B ⟨[g],[],[],[],[]⟩,[(g,.g7 ze)]⟩
def hs.amc{q ao:cP}(h:hs q ao){C:Nat×Nat×Nat×Nat×E (E V)}(ap:BB u q y=B C):BB u ao y=B C:=by
 unfold BB at ap⊢;split at ap;rotate_left;cases ap;split at ap;rotate_left;cases ap;rename_i a e i aA;try simp only[i,aA]
 split at ap;rotate_left;cases ap;rename_i g j d b;rw[h.dZ d];try simp only[b]
 split at ap;rotate_left;cases ap;rename_i aD Q ae cN;rwa[h.h _ _ cN]
theorem asX{ag:Type}{ao:cP}{i g e aD Q:Nat}{f:ag->E V}{k:ag->V}{s:E ag}(b:∀a,f a=[k a])(h:BB u ao y=B (g,e,aD,Q,s.map f))(aa:hF ops y ao=B T)(am:y.dst=B i)(aP:i<n)(ak:i<1000000)(al:i≠g):
  mo u n ops y (MR ao i g e aD<|s.map k):=by
 intro K q aj av;have cR:nh q i (B i):=av.1 rfl;replace aa:=aj.guard aa;replace h:=aj.amc h;unfold BB at h;split at h;rotate_left;cases h;rename_i aK jF cK;split at h;rotate_left;cases h;rename_i a aG ax aA;have aw:jF= #[(0,a)]:=by rw[<-lF (xs:=jF),ax]
 subst aw;split at h;rotate_left;cases h;rename_i aQ aF d aq;split at h;rotate_left;cases h;rename_i aO aN aT cN;split at h;rotate_left;cases h;rename_i ap;have⟨az,N⟩:=ap;cases h;have⟨an,N⟩:=lb.1 N;refine nj aa λx t w r aM ah af=>?_
 have aC:=r.kM.o y;have⟨aE,_⟩:=aC.op a _ hD d;have⟨P,aZ,S,ay⟩:=r.eV.gg g _ cN;have⟨bb,a4,a0,bc,a9,a5,a7⟩:=kK aZ;have au:F s=Q:=QQ;have a3:=run_buildSlice (P:=u) w aK e 1 #[(0,(x.dM g).1)] #[(x.dM g).1] aF an aA aq N dd dd (by rw[a0,az];simp[Instr.fill,Value.cells,(J:Array.range 1= #[0])])
 unfold ln;simp only[execOp,cK,g3,p5,hx,jY,aE,a3,gn,hM,ly]
 let aY:dp:=.slice (B ⟨w.heap.size,0,M⟩) 1 1
 let ai:dY:=x.iP i (aY,.agg #[(x.dM g).1]) (0,0);have z:ai.dM i=(aY,.agg #[(x.dM g).1]):=by simp[ai,dY.iP]
 have ad:=Ext.alloc w<|.cells #[(x.dM g).1] e;have dI:∀(j:Nat) (p:dp),(#[(x.dM g).1]:Array dp)[j]?=B p->j=0/\p=(x.dM g).1:=by
  intro j p aA;cases j with
  |zero=>simp at aA;exact cU
  |succ j=>simp at aA
 have aJ:=r.y3 i;have⟨aH,ae⟩:=aJ.asE (ai:=ai) (aE:=w.alloc<|.cells #[(x.dM g).1] e) (r:=.g7<|jN e aD [s.map k]) al ak cR.drop cN rfl (λe D=>by simp[ai,dY.iP,D]) ((fL.rS ad).kN cU) (λl aR b=>by
   rcases b with b|⟨aS,G,j,p,aA,A⟩
   .rw[z]at b;simp only[aY,n6,h0]at b;exact .inr I
   .rw[z]at G;cases G;obtain⟨rfl,rfl⟩:=dI j p aA;exact .inl A) (λ_ C=>lL) (λae=>⟨#[(x.dM g).1],E7,by
     rw[z];exact⟨rfl,.inr ⟨w.heap.size,1,#[(x.dM g).1],rfl,Nat.zero_le _,heap_alloc_new w _,jq _,E3,rfl,rfl⟩⟩,λj p a aA d=>by
     obtain⟨rfl,rfl⟩:=dI j p aA;simp only[rf,h0]at d;subst d;refine⟨P,G3 (fL.rS ad) (by rw[fT,au];exact aZ) λ_ _ _ h=>h,?_⟩;have D:s4 (s.map k)=s.map f:=by unfold s4;rw[xD];exact pw λa _=>(b a).symm
     rw[D];exact ay.mono ae,λj m p aL l ar aA aB=>absurd ((dI j p aA).1.trans (dI m aL aB).1.symm) ar,λj p l aA A ab=>by
     obtain⟨rfl,rfl⟩:=dI j p aA;rw[z]at ab;simp only[aY,n6,h0]at ab;have:=(aZ.m).lt l A;omega⟩)
 rw[am];have aI:=aH.put (B i) cU (p:=aY) (v:=.c<|.dk i) (by simp only[fM,fA,ea];rw[z];exact ef)
 refine af _ _ ⟨ai,aI.jU (λm=>?_) ?_⟩
 .simp only[MR,ec.cL,uj,ec.pre,cP.put,cP.f3,kZ,cP.iJ,V.lX];by_cases o:i=m
  .simp[o]
  .rw[dA o,dA o,sT (λv=>cT.map (V.hv g) v),sT λv=>cT.map (V.hv g) v,t6,dA<|l5 o]
 .simp only[MR,ec.cL,uj,ec.pre,cP.put,cP.f3,cP.iJ,V.lX,pG.res];rfl
variable{ah:fE->cP->Prop}{N:dT}{P:fX}{ag:Type}
def aiu(l m i e aD:Nat)(a:N.pre=T)(g:TS u K n (N.ra (GD N.d1 l m i e aD)) ah):TS u K n N ah:=ve (λ_ _ _ aj r=>r.GD aj) a g
def Q5(i e aD:Nat)(f:ag->V)(s:E (E ag))(cN:cO N.d1.Y i=B (Gu e aD f s))(b:N.pre=T)(g:TS u K n (N.tf (N.d1.f3 i (d5 e 1 (jK 1 λt=>[f t]) s))) ah):TS u K n N ah:=by
 refine vg _ (λ_ _ r=>r.amt cN) b ?_;have G:eD.row e 1 (F (s.map λa=>a.map f)) ((s.map λa=>a.map f).map λa=>[V.d_ 1 0 (F a)<|s4 a])=d5 e 1 (jK 1 λt=>[f t]) s:=by
  unfold d5;rw[fT,xD];congr 1;refine pw λa _=>?_
  simp[jK,s4,Function.comp_def]
 rwa[G]
def fX.afD{D:Type}(P:fX)(a:E Nat)(f:cP->dy->X D):X D:=match P.op with
 |some (_,y)=>f (P.q4 a) y
 |none=>M
theorem ah5(i g e aD Q:Nat)(f:ag->E V)(b:ag->V)(s:E ag)(l:∀a,f a=[b a])(h:P.afD [g] (BB u)=B (g,e,aD,Q,s.map f))(ar:(P.k2 n i&&i !=g)=T)(m:TD u K n (P.push (MR (P.q4 [g]) i g e aD (s.map b))) ah):TD u K n P ah:=by rw[fz]at ar;have⟨o,y,cK,G,d,j,k⟩:=GJ ar.1;unfold fX.afD at h;rw[cK]at h;exact NC cK (asX l h ((SZ P [g]).guard G) d j k cU) (SY _ _) (TH rfl _) (TI rfl) m
def aic{d:Nat}(i g e aD:Nat)(f:ag->E V){a b l:E ag}(j:ej d (a.take (F a)) (cQ.cL .c_ b)=B l)(q:(F b !=0)=T)(h:N.fQ (Rz u)=B (i,g,e,d))(cN:cO N.d1.Y i=B (.g7 (jN e aD (a.map f))))(p:cO N.d1.Y g=B (.g7 (jN e aD (b.map f))))(ar:N.ft n=T)
  (k:TS u K n (N.next<|(N.d1.SA i g<|.g7<|jN e aD<|l.map f).put N.dst<|.c<|.dk i) ah):TS u K n N ah:=by
 have⟨s,y,cK,G,m,o⟩:=ph ar;rw[o]at k;rw[List.take_length]at j;exact o8 cK (ahI j q (jb h cK) cN p G m) k
def ah1(i e aD:Nat)(f:ag->E V){s:E ag}{j:Int}{a:ag}(d:di s j=B a)(h:P.fQ (Sr u)=B (i,j))(cN:cO P.need.Y i=B (.g7 (jN e aD (s.map f))))(ar:P.ft n=T)(b:TD u K n (P.ret (.c (.hn i 1 (0+j.toNat) 0))) ah):TD u K n P ah:=by rw[gx]at b;exact nl _ ar (λk g cK=>alj d (jW h cK) cN) b
def ah4(b i e aD j:Nat)(f:ag->E V){s:E ag}{a:ag}(d:s[j]?=B a)(h:P.fQ (SK u)=B (b,i,j))(cN:cO P.need.Y i=B (.g7 (jN e aD (s.map f))))(g:nw u b [.hV i j M]=B (.c (.hV i j M)))(ar:P.ft n=T)(k:TD u K n (P.ret (.c (.hV i j M))) ah):TD u K n P ah:=nl _ ar (λm l cK=>alk d (jW h cK) cN g) k
def ah0(i e aD j:Nat)(f:ag->V){s:E (E ag)}{a:E ag}{m:Int}{o:ag}(d:s[j]?=B a)(ad:di a m=B o)(h:P.fQ (Sq u)=B (i,j,m))(cN:cO P.need.Y i=B (.g7 (jN e aD (s.map λa=>a.map f))))(ar:P.ft n=T)(b:TD u K n (P.ret (.c (.hV i j (B m.toNat)))) ah):TD u K n P ah:=nl _ ar (λk g cK=>ali d ad (jW h cK) cN) b
def aia(i e aD j m:Nat)(f:ag->V){s:E (E ag)}{a:E ag}(b:ag)(c:V)(d:s[j]?=B a){v:ag}(aw:a[m]?=B v)(g:c=f b)(h:P.fQ (Uh u)=B (i,j,m,c))(cN:cO P.need.Y i=B (.g7 (jN e aD (s.map λa=>a.map f))))(ar:(P.ft n&&c.one)=T)
  (k:TD u K n (P.push ⟨P.need,P.dst,.eu [],B (i,.g7 (jN e aD ((s.set j<|a.set m b).map λa=>a.map f))),Z,M,[]⟩) ah):TD u K n P ah:=by
 rw[fz]at ar;exact yG (λo l cK=>asP d (ie.1 aw).1 g ar.2 (jW h cK) cN) ar.1 k
def cS(a:Int):cT:=.c (c5 a)
def e4(a:Bool):cT:=.c (gR a)
def qR(a:Int):cT:=.c (da a)
def kX(a:Int):cT:=.c (fm a)
def qn(a:Int):cT:=.c (hL a)
def dJ{ag:Type}(n:Nat)(f:ag->E V)(s:E ag):cT:=.c (eS n f s)
def dP{ag:Type}(f:ag->E V)(a:ag):cT:=.agg (f a)
def l0(g:Nat)(s:E Nat):E Nat:=fe g 0++s
variable{D q:Type}
def dT.cY(N:dT):dT:=match N.Hr with
 |some T=>N.ae6
 |some Z=>N.Z9
 |none=>.iZ
def Ly(g:TS u K n N.cY ah):TS u K n N ah:=by
 unfold dT.cY at g;split at g
 .exact AY (by assumption) rfl g
 .exact Fe (by assumption) rfl g
 .exact g.elim
def dt(A:Nat)(g:TS u K n (go u n A N).cY ah):TS u K n N ah:=cV A (Ly g)
def dT.mt(N:dT)(l:Bool)(s:E Nat):dT:=s.foldl (λN a=>N.G6 a l) N
def vB(N:dT)(e:Bool)(s:E Nat):Prop:=s.map (cO N.d1.tmps)=s.map λ_=>B (.c (.cY (.bool e)))
def Gr{e:Bool}{a:Nat}(d:Nat)(b:N.pre=T)(h:cO N.d1.tmps a=B (.c (.cY (.bool e)))):cO (N.G6 a e).d1.tmps d=cO N.d1.tmps d/\(N.G6 a e).pre=T:=by
 cases N with
 |iZ=>cases b
 |mk eU gQ q=>
  have aF:cO q.tmps a=B (.c<|.cY<|.bool e):=h;constructor
  .show cO (q.put (B a)<|.c<|.cY<|.bool e).tmps d=cO q.tmps d;rw[ov];split
   next C=>have:a=d:=EU;rw[<-this,aF]
   .rfl
  .cases eU with
   |nil=>cases b
   |cons f eU=>cases f with
    |code c=>cases gQ<;>first|rfl|cases b
    |ops t s=>cases s<;>cases gQ<;>first|rfl|cases b
    |_=>cases gQ<;>cases b
def Fi{e:Bool}:∀(s:E Nat) {N:dT},vB N e s->N.pre=T->(TS u K n (N.mt e s) ah)->TS u K n N ah
 |[],_,_,_,g=>g
 |d::s,N,h,b,g=>by unfold vB at h;simp only[hx,tm]at h;refine o6 d rfl h.1 b<|Fi s ?_ (Gr 0 b h.1).2 g;unfold vB;rw[<-h.2];exact pw λa _=>(Gr a b h.1).1
def Sm{e g:Bool}(d:E Nat):∀(s:E Nat) {N:dT},vB N e s->vB N g d->N.pre=T->vB (N.mt e s) g d/\(N.mt e s).pre=T
 |[],_,_,aF,b=>⟨aF,b⟩
 |i::s,N,h,aF,b=>by
  unfold vB at h aF;simp only[hx,tm]at h;refine Sm d s ?_ ?_ (Gr 0 b h.1).2
  .unfold vB;rw[<-h.2];exact pw λa _=>(Gr a b h.1).1
  .unfold vB;rw[<-aF];exact pw λa _=>(Gr a b h.1).1
def dT.vD(N:dT)(l:Bool)(z C:E Nat):dT:=((N.mt l z).mt (!l) C).cY
def dT.MA(N:dT)(e:Bool)(z C:E Nat):Prop:=(z.map (cO N.d1.tmps),C.map (cO N.d1.tmps),N.pre)=(z.map λ_=>B (.c (.cY (.bool e))),C.map λ_=>B (.c (.cY (.bool (!e)))),T)
def Lv{e l:Bool}{z C:E Nat}(d:e=l)(h:N.MA e z C)(g:TS u K n (N.vD l z C) ah):TS u K n N ah:=by subst d;unfold dT.MA at h;have⟨G,a⟩:=mh ..▸h;have⟨a,b⟩:=mh ..▸a;have:=Sm (e:=e) C z G a b;exact Fi z G b<|Fi C this.1 this.2<|Ly g
theorem aaY(A:Nat)(z C:E Nat){e:Bool}{a o:X ag}{r:ag}(h:(bif e then a else o)=B r)(g:e=T->a=B r->TS u K n ((go u n A N).vD T z C) ah)(i:e=Z->o=B r->TS u K n ((go u n A N).vD Z z C) ah)(d:(z.map (cO (go u n A N).d1.tmps),C.map (cO (go u n A N).d1.tmps),(go u n A N).pre)=(z.map λ_=>B (cT.c (.cY (.bool e))),C.map λ_=>B (cT.c (.cY (.bool (!e)))),T):=by kernel_rfl):TS u K n N ah:=by
 refine cV A ?_;rcases sP h with⟨b,h⟩|⟨b,h⟩
 .exact Lv b d cU
 .exact Lv b d cU
theorem c7(A:Nat)(z C:E Nat){e:Bool}{a o:X ag}{r:ag}(h:(bif e then a else o)=B r)(d:a=B r->TS u K n ((go u n A N).vD T z C) ah)(g:o=B r->TS u K n ((go u n A N).vD Z z C) ah)(b:(z.map (cO (go u n A N).d1.tmps),C.map (cO (go u n A N).d1.tmps),(go u n A N).pre)=(z.map λ_=>B (cT.c (.cY (.bool e))),C.map λ_=>B (cT.c (.cY (.bool (!e)))),T):=by kernel_rfl):TS u K n N ah:=aaY A z C h cU cU b
theorem aaZ(A:Nat)(z C:E Nat){e:Bool}{a:X ag}{r:ag}(h:(bif e then a else M)=B r)(g:e=T->a=B r->TS u K n ((go u n A N).vD T z C) ah)(d:(z.map (cO (go u n A N).d1.tmps),C.map (cO (go u n A N).d1.tmps),(go u n A N).pre)=(z.map λ_=>B (cT.c (.cY (.bool e))),C.map λ_=>B (cT.c (.cY (.bool (!e)))),T):=by kernel_rfl):TS u K n N ah:=by have⟨b,h⟩:=akp h;exact cV A<|Lv b d cU
theorem hb(A:Nat)(z C:E Nat){e:Bool}{a:X ag}{r:ag}(h:(bif e then a else M)=B r)(d:a=B r->TS u K n ((go u n A N).vD T z C) ah)(b:(z.map (cO (go u n A N).d1.tmps),C.map (cO (go u n A N).d1.tmps),(go u n A N).pre)=(z.map λ_=>B (cT.c (.cY (.bool e))),C.map λ_=>B (cT.c (.cY (.bool (!e)))),T):=by kernel_rfl):TS u K n N ah:=aaZ A z C h cU b
theorem alt(A:Nat)(z C:E Nat){e:Bool}{a:X ag}{r:ag}(h:(bif e then M else a)=B r)(g:e=Z->a=B r->TS u K n ((go u n A N).vD Z z C) ah)(d:(z.map (cO (go u n A N).d1.tmps),C.map (cO (go u n A N).d1.tmps),(go u n A N).pre)=(z.map λ_=>B (cT.c (.cY (.bool e))),C.map λ_=>B (cT.c (.cY (.bool (!e)))),T):=by kernel_rfl):TS u K n N ah:=by have⟨b,h⟩:=ZY h;exact cV A<|Lv b d cU
theorem eI(A:Nat)(z C:E Nat){e:Bool}{a:X ag}{r:ag}(h:(bif e then M else a)=B r)(d:a=B r->TS u K n ((go u n A N).vD Z z C) ah)(b:(z.map (cO (go u n A N).d1.tmps),C.map (cO (go u n A N).d1.tmps),(go u n A N).pre)=(z.map λ_=>B (cT.c (.cY (.bool e))),C.map λ_=>B (cT.c (.cY (.bool (!e)))),T):=by kernel_rfl):TS u K n N ah:=alt A z C h cU b
def X9{e l:Bool}{z C:E Nat}(d:e=l)(h:N.MA e z C)(g:TS u K n ((N.mt l z).mt (!l) C) ah):TS u K n N ah:=by subst d;unfold dT.MA at h;have⟨G,a⟩:=mh ..▸h;have⟨a,b⟩:=mh ..▸a;have:=Sm (e:=e) C z G a b;exact Fi z G b<|Fi C this.1 this.2 g
theorem vH(A:Nat)(z C:E Nat){e:Bool}{a o:X ag}{r:ag}(h:(bif e then a else o)=B r)(g:e=T->a=B r->TS u K n (((go u n A N).mt T z).mt (!T) C) ah)(i:e=Z->o=B r->TS u K n (((go u n A N).mt Z z).mt (!Z) C) ah)(d:(z.map (cO (go u n A N).d1.tmps),C.map (cO (go u n A N).d1.tmps),(go u n A N).pre)=(z.map λ_=>B (cT.c (.cY (.bool e))),C.map λ_=>B (cT.c (.cY (.bool (!e)))),T):=by kernel_rfl):TS u K n N ah:=by
 refine cV A ?_;rcases sP h with⟨b,h⟩|⟨b,h⟩
 .exact X9 b d cU
 .exact X9 b d cU
theorem gp(A:Nat)(z C:E Nat){e:Bool}{a o:X ag}{r:ag}(h:(bif e then a else o)=B r)(d:a=B r->TS u K n (((go u n A N).mt T z).mt (!T) C) ah)(g:o=B r->TS u K n (((go u n A N).mt Z z).mt (!Z) C) ah)(b:(z.map (cO (go u n A N).d1.tmps),C.map (cO (go u n A N).d1.tmps),(go u n A N).pre)=(z.map λ_=>B (cT.c (.cY (.bool e))),C.map λ_=>B (cT.c (.cY (.bool (!e)))),T):=by kernel_rfl):TS u K n N ah:=vH A z C h cU cU b
theorem al6(A:Nat)(z C:E Nat){e:Bool}{a:X ag}{r:ag}(h:(bif e then a else M)=B r)(d:e=T->a=B r->TS u K n (((go u n A N).mt T z).mt (!T) C) ah)(b:(z.map (cO (go u n A N).d1.tmps),C.map (cO (go u n A N).d1.tmps),(go u n A N).pre)=(z.map λ_=>B (cT.c (.cY (.bool e))),C.map λ_=>B (cT.c (.cY (.bool (!e)))),T):=by kernel_rfl):TS u K n N ah:=vH A z C h d cU b
theorem hW(A:Nat)(z C:E Nat){e:Bool}{a:X ag}{r:ag}(h:(bif e then a else M)=B r)(d:a=B r->TS u K n (((go u n A N).mt T z).mt (!T) C) ah)(b:(z.map (cO (go u n A N).d1.tmps),C.map (cO (go u n A N).d1.tmps),(go u n A N).pre)=(z.map λ_=>B (cT.c (.cY (.bool e))),C.map λ_=>B (cT.c (.cY (.bool (!e)))),T):=by kernel_rfl):TS u K n N ah:=al6 A z C h cU b
theorem SH(A:Nat)(z C:E Nat){e:Bool}{a:X ag}{r:ag}(h:(bif e then M else a)=B r)(d:e=Z->a=B r->TS u K n (((go u n A N).mt Z z).mt (!Z) C) ah)(b:(z.map (cO (go u n A N).d1.tmps),C.map (cO (go u n A N).d1.tmps),(go u n A N).pre)=(z.map λ_=>B (cT.c (.cY (.bool e))),C.map λ_=>B (cT.c (.cY (.bool (!e)))),T):=by kernel_rfl):TS u K n N ah:=vH A z C h cU d b
theorem gF(A:Nat)(z C:E Nat){e:Bool}{a:X ag}{r:ag}(h:(bif e then M else a)=B r)(d:a=B r->TS u K n (((go u n A N).mt Z z).mt (!Z) C) ah)(b:(z.map (cO (go u n A N).d1.tmps),C.map (cO (go u n A N).d1.tmps),(go u n A N).pre)=(z.map λ_=>B (cT.c (.cY (.bool e))),C.map λ_=>B (cT.c (.cY (.bool (!e)))),T):=by kernel_rfl):TS u K n N ah:=SH A z C h cU b
theorem yU{f:gk}{ak:E cT}{h:fK}{y:X ag}{S:ag->cT}{a:ag->fK}(d:E (E Nat))(spec:E (Nat×E Nat))(Y:∀v,y=B v->ih u f ak h (S v) (a v))(g:∀v,((s6 (a v) spec).isSome&&((s6 (a v) spec).getD []).all λz=>z.2.kr)=T:=by intro _;kernel_rfl):∀v,y=B v->ih u f ak h (L4 d (S v)) ((s6 (a v) spec).getD []):=λv ab=>by have:=g v;simp only[fz]at this;have⟨i,b⟩:=lb.1 this.1;rw[b]at this⊢;exact ZV d spec cU rfl b this.2
def qo{f:gk}{ak:E cT}{h:fK}{y:X ag}{S:ag->cT}{b:ag->fK}(a:E (E Nat))(Y:∀v,y=B v->ih u f ak h (S v) (b v)):∀v,y=B v->ih u f ak h (L4 a (S v)) []:=λv ab=>ZV a [] (Y v ab) rfl rfl rfl
def dC{z:Prop}{y:X ag}{x:ag->X D}{r:D}(h:y.bind x=B r)(g:∀v,y=B v->x v=B r->z):z:=by have⟨v,ab,h⟩:=ls h;exact g v ab h
def eX{z:Prop}{l:Bool}{a:X ag}{r:ag}(h:(bif l then a else M)=B r)(g:l=T->a=B r->z):z:=(ZR h).elim g
def lg{z:Prop}{l:Bool}{a:X ag}{r:ag}(h:(bif l then M else a)=B r)(g:l=Z->a=B r->z):z:=(ZY h).elim g
theorem eN{z:Prop}{l:Bool}{a o:X ag}{r:ag}(h:(bif l then a else o)=B r)(g:l=T->a=B r->z)(b:l=Z->o=B r->z):z:=(sP h).elim cU cU
theorem nF(A:Nat)(a:E (E Nat)){y:X ag}{x:ag->X D}{r:D}{f:gk}{ak:E cT}{S:ag->cT}(h:y.bind x=B r)(Y:∀v,y=B v->ih u f ak [] (S v) [])(g:∀v,x v=B r->TS u K n ((go u n A N).ret (S v)) ah)(b:(go u n A N).callee a=B (f,ak):=by kernel_rfl)(ar:∀v,((go u n A N).ft n&&iz u f&&(S v).eY V.il)=T:=by intro _;kernel_rfl):TS u K n N ah:=by have⟨v,ab,h⟩:=ls h;exact cV A<|aig a (Y v ab) b (ar v) cU
def db(A:Nat){y:X ag}{x:ag->X D}{r:D}{f:gk}{ak:E cT}{S:ag->cT}(h:y.bind x=B r)(Y:∀v,y=B v->ih u f ak [] (S v) [])(g:∀v,x v=B r->TS u K n ((go u n A N).ret (S v)) ah)(a:(go u n A N).callee []=B (f,ak):=by kernel_rfl)(ar:∀v,((go u n A N).ft n&&iz u f&&(S v).eY V.il)=T:=by intro _;kernel_rfl):TS u K n N ah:=nF A [] h Y g a ar
theorem Z5(A:Nat)(a:E (E Nat)){y:X ag}{x:ag->X D}{r:D}{f:gk}{ak:E cT}{S:ag->cT}(h:y.bind x=B r)(Y:∀v,y=B v->ih u f ak [] (S v) [])(g:∀v,x v=B r->TD u K n ((goD u n A P).ret (S v)) ah)(b:(goD u n A P).callee a=B (f,ak):=by kernel_rfl)(ar:∀v,((goD u n A P).ft n&&iz u f&&(S v).eY V.il)=T:=by intro _;kernel_rfl):TD u K n P ah:=by have⟨v,ab,h⟩:=ls h;exact fa A<|pN a (Y v ab) b (ar v) cU
def d0(A:Nat){y:X ag}{x:ag->X D}{r:D}{f:gk}{ak:E cT}{S:ag->cT}(h:y.bind x=B r)(Y:∀v,y=B v->ih u f ak [] (S v) [])(g:∀v,x v=B r->TD u K n ((goD u n A P).ret (S v)) ah)(a:(goD u n A P).callee []=B (f,ak):=by kernel_rfl)(ar:∀v,((goD u n A P).ft n&&iz u f&&(S v).eY V.il)=T:=by intro _;kernel_rfl):TD u K n P ah:=Z5 A [] h Y g a ar
theorem dN(A:Nat)(i:E (E Nat))(b:E (Nat×Nat))(a:X (Nat×Nat)){y:X ag}{x:ag->X D}{r:D}{f:gk}{ak:E cT}{H:fK}{S:ag->cT}{d:ag->fK}(h:y.bind x=B r)(Y:∀v,y=B v->ih u f ak H (S v) (d v))
  (g:∀v,x v=B r->TS u K n ((go u n A N).next<|(go u n A N).d1.after (d v) (S v) b a (go u n A N).dst) ah)(j:(go u n A N).callee i=B (f,yP a ak):=by kernel_rfl)(ar:∀v,((go u n A N).ft n&&iz u f&&ak.all (M6 a)&&G4 (go u n A N).d1 H (d v) b a&&vN (go u n A N).d1 (d v) (S v) b (go u n A N).dst)=T:=by intro _;kernel_rfl)(k:(zx (go u n A N).d1 H a).1=(zx (go u n A N).d1 H a).2:=by kernel_rfl):TS u K n N ah:=by
 have⟨v,ab,h⟩:=ls h;exact cV A<|X5 i b a (Y v ab) j (ar v) k cU
theorem hm(A:Nat)(d:E (E Nat))(a dR:E (Nat×Nat)){y:X ag}{x:ag->X D}{r:D}{f:gk}{ak:E cT}{H:fK}{S:ag->cT}{b:ag->fK}(h:y.bind x=B r)(Y:∀v,y=B v->ih u f ak H (S v) (b v))
  (g:∀v,x v=B r->TS u K n ((go u n A N).next<|(go u n A N).d1.yM (b v) (S v) (dR++a) (go u n A N).dst) ah)(i:(go u n A N).callee d=B (f,ak.map<|cT.map<|V.fD<|fZ dR):=by kernel_rfl)(ar:∀v,((go u n A N).ft n&&iz u f&&L9 (go u n A N).d1 H (b v) ak (S v) a dR (go u n A N).dst)=T:=by intro _;kernel_rfl)(j:dR.map (λC=>cO (go u n A N).d1.Y C.1)=dR.map (λC=>(cO H C.2).map<|eD.map<|V.fD<|fZ dR):=by kernel_rfl):TS u K n N ah:=by
 have⟨v,ab,h⟩:=ls h;exact cV A<|Q2 d a dR (Y v ab) i (ar v) j cU
theorem jf(i e A:Nat)(b:E (E Nat)){y:X ag}{x:ag->X D}{r:D}{f:gk}{ak:E cT}{S:ag->cT}{a:ag->eD}(h:y.bind x=B r)(Y:∀v,y=B v->ih u f ak [] (S v) [(e,a v)])
  (g:∀v,x v=B r->TD u K n ((goD u n A P).push ⟨(goD u n A P).need,B i,(S v).map<|V.fD<|fZ [(i,e)],B (i,a v),T,M,[]⟩) ah)(d:(goD u n A P).callee b=B (f,ak):=by kernel_rfl)(ar:∀v,((goD u n A P).k2 n i&&iz u f&&decide (e<1000000)&&ak.all (λv=>v.eY V.il)&& !(a v).kr&&(S v).eY (V.fn<|ms [(i,e)]))=T:=by intro _;kernel_rfl):TD u K n P ah:=by
 have⟨v,ab,h⟩:=ls h;exact fa A<|ahW b (Y v ab) d (ar v) cU
theorem e5(A:Nat)(f:q->E V){s:E q}{j:Int}{x:q->X D}{r:D}(h:(di s j).bind x=B r)(g:∀v,x v=B r->TS u K n ((go u n A N).ret (.c (.e1 (f v)))) ah)(a:(go u n A N).fQ (Bw u)=B (s.map f,j):=by kernel_rfl)(ar:(go u n A N).ft n=T:=by kernel_rfl):TS u K n N ah:=by have⟨v,ab,h⟩:=ls h;exact cV A<|Fh f ab a ar cU
theorem hE(A:Nat)(f:q->E V){s:E q}{j:Int}{x:q->X D}{r:D}(h:(di s j).bind x=B r)(g:∀v,x v=B r->TD u K n ((goD u n A P).ret (.c (.e1 (f v)))) ah)(a:(goD u n A P).fQ (Bw u)=B (s.map f,j):=by kernel_rfl)(ar:(goD u n A P).ft n=T:=by kernel_rfl):TD u K n P ah:=by have⟨v,ab,h⟩:=ls h;exact fa A<|ahZ f ab a ar cU
theorem kh(A:Nat)(f:q->E V)(sz:Nat){s:E q}{t l:Int}{x:E q->X D}{r:D}(h:(g2 s t l).bind x=B r)(g:∀v,x v=B r->TS u K n ((go u n A N).ret (.c (.d_ sz 0 (F v) (v.map f)))) ah)(a:(go u n A N).fQ (Hp u)=B (sz,s.map f,t,l):=by kernel_rfl)(ar:(go u n A N).ft n=T:=by kernel_rfl):TS u K n N ah:=by have⟨v,ab,h⟩:=ls h;exact cV A<|aiA f sz ab a ar cU
theorem nm(A i e sz:Nat)(f:q->E V){j:Nat}{d k:E q}{c:cQ}{x:E q->X D}{r:D}(h:(ej j d (c.cL k)).bind x=B r)(g:∀b,x b=B r->TS u K n ((go u n A N).next (((go u n A N).d1.f3 i (.fw e sz (F b))).put (go u n A N).dst (.c (.d_ sz (i+2) (F b) (b.map f))))) ah)(m:∀a,(f a).all V.one=T:=by intro _;kernel_rfl)(l:(go u n A N).fQ (rH u)=B (i,e,sz,j,F d,F d,d.map f,k.map f,c):=by kernel_rfl)(ar:(go u n A N).ft n=T:=by kernel_rfl):TS u K n N ah:=by have⟨v,ab,h⟩:=ls h;exact cV A<|Q0 f m ab l ar cU
def o9(A i e sz:Nat)(f:q->E V){j:Nat}{b k:E q}{c:cQ}{x:E q->X D}{r:D}(h:(ej j (b.take (F b)) (c.cL k)).bind x=B r)(g:∀d,x d=B r->TS u K n ((go u n A N).next ((((go u n A N).d1.iJ (V.hv i)).f3 i (.row e sz (F d) (d.map f))).put (go u n A N).dst (.c (.dk i)))) ah)(m:∀a,(f a).all V.one=T:=by intro _;kernel_rfl)(l:(go u n A N).fQ (qk u)=B (i,e,sz,j,F b,b.map f,F b,k.map f,c):=by kernel_rfl)(ar:(go u n A N).ft n=T:=by kernel_rfl):TS u K n N ah:=by have⟨v,ab,h⟩:=ls h;exact cV A<|aid f m ab l ar<|g v h
def w2(A i e sz:Nat)(f:q->E V){j:Nat}{b k:E q}{c:cQ}{x:E q->X D}{r:D}(h:(ej j (b.take (F b)) (c.cL k)).bind x=B r)(g:∀d,x d=B r->TD u K n ((goD u n A P).push ⟨(goD u n A P).need,(goD u n A P).dst,.c (.dk i),B (i,.row e sz (F d) (d.map f)),Z,B ⟨[i],[],[],[],[]⟩,[]⟩) ah)(m:∀a,(f a).all V.one=T:=by intro _;kernel_rfl)(l:(goD u n A P).fQ (qk u)=B (i,e,sz,j,F b,b.map f,F b,k.map f,c):=by kernel_rfl)(ar:(goD u n A P).ft n=T:=by kernel_rfl):TD u K n P ah:=by have⟨v,ab,h⟩:=ls h;exact fa A<|Lr f m ab l ar<|g v h
def Bo(A i e sz:Nat)(f:q->E V){j:Nat}{d k:E q}{c:cQ}{x:E q->X D}{r:D}(h:(ej j d (c.cL k)).bind x=B r)(g:∀b,x b=B r->TD u K n ((goD u n A P).push ⟨(goD u n A P).need,(goD u n A P).dst,.c (.d_ sz (i+2) (F b) (b.map f)),B (i,.fw e sz (F b)),Z,M,[]⟩) ah)(m:∀a,(f a).all V.one=T:=by intro _;kernel_rfl)(l:(goD u n A P).fQ (rH u)=B (i,e,sz,j,F d,F d,d.map f,k.map f,c):=by kernel_rfl)(ar:(goD u n A P).ft n=T:=by kernel_rfl):TD u K n P ah:=by have⟨v,ab,h⟩:=ls h;exact fa A<|XT f m ab l ar<|g v h
def i1(A i e sz:Nat)(f:q->E V)(a:E Nat)(s:E q)(g:TS u K n ((go u n A N).next (((go u n A N).d1.f3 i (.fw e sz (F s))).put (B i) (.c (.d_ sz (i+2) (F s) (s.map f))))) ah)(h:(go u n A N).fQ (vI u a)=B (e,sz,s.map f):=by kernel_rfl)(ar:(go u n A N).k2 n i=T:=by kernel_rfl):TS u K n N ah:=cV A (aiq i e sz f a s h ar g)
def lQ(A:Nat)(g:TS u K n ((go u n A N).ret (.c (.e1 (((go u n A N).fQ FF).getD [])))) ah)(h:(((go u n A N).fQ FF).isSome&&(go u n A N).ft n)=T:=by kernel_rfl):TS u K n N ah:=by simp only[fz]at h;have⟨b,a⟩:=lb.1 h.1;rw[a]at g;exact cV A<|X4 a h.2 g
def k0(A:Nat)(g:TS u K n ((go u n A N).ret (.c (.gf (((go u n A N).fQ BG).getD (0,[])).1 (((go u n A N).fQ BG).getD (0,[])).2))) ah)(h:(((go u n A N).fQ BG).isSome&&(go u n A N).ft n)=T:=by kernel_rfl):TS u K n N ah:=by simp only[fz]at h;have⟨⟨f,b⟩,a⟩:=lb.1 h.1;rw[a]at g;exact cV A<|X_ a h.2 g
def dK(A m:Nat)(g:TD u K n (goD u n m (go u n A N).yZ) ah)(a:u.follows .mixedOrders=T:=by kernel_rfl):TS u K n N ah:=cV A (vd a (fa m g))
def dG(A m:Nat)(g:TS u K n (go u n m (goD u n A P).done) ah)(af:(goD u n A P).ok=T:=by kernel_rfl):TD u K n P ah:=fa A (vc af (cV m g))
def fc(A:Nat){e l:Bool}(a:e=l)(g:TD u K n ((goD u n A P).ret (.c (.cY (.bool l)))) ah)(ar:(goD u n A P).ft n=T:=by kernel_rfl)(h:(goD u n A P).fQ (λq y=>s9 u q y.op)=B (.c (.cY (.bool e))):=by kernel_rfl):TD u K n P ah:=fa A (ah3 0 a trivial ar h g)
def dj(A:Nat)(f:i5)(g:TS u K n ((go u n A N).rK f) ah)(a:(go u n A N).pre=T:=by kernel_rfl):TS u K n N ah:=cV A (aij f a g)
def dF(A a:Nat){e l:Bool}(b:e=l)(g:TS u K n ((go u n A N).G6 a l) ah)(h:cO (go u n A N).d1.tmps a=B (.c (.cY (.bool e))):=by kernel_rfl)(d:(go u n A N).pre=T:=by kernel_rfl):TS u K n N ah:=cV A (o6 a b h d g)
def dD(A i:Nat)(g:TS u K n ((go u n A N).ra (NM (go u n A N).d1 i)) ah)(a:(go u n A N).pre=T:=by kernel_rfl):TS u K n N ah:=cV A (aiw i a g)
def f9(A a i e sz:Nat)(g:TS u K n ((go u n A N).ra (BJ (go u n A N).d1 a i e sz)) ah)(b:(go u n A N).pre=T:=by kernel_rfl):TS u K n N ah:=cV A (aiv a i e sz b g)
def f_(A l:Nat)(g:TS u K n ((go u n A N).ra ((go u n A N).d1.Bh l)) ah)(a:(go u n A N).pre=T:=by kernel_rfl):TS u K n N ah:=cV A (aif l a g)
def So(a:cP):i5:=⟨a.tmps.map λz=>(z.1,[]),a.Y.map λz=>(z.1,(z.1,[]))⟩
def h5{i S:Type}{a:i->cP}{m:i->X S}{r:S}{eU:E oP}{v:i}(A:Nat)(f:i5)(aw:m v=B r)(b:(go u n A N).vx=T:=by kernel_rfl)(d:n1 f (go u n A N).d1=B (a v):=by kernel_rfl):TS u K n N (vG u K n eU ah a m r):=cV A (Fk v f aw b d)
def dQ{i S:Type}{a:i->cP}{m:i->X S}{r:S}{eU:E oP}{v:i}(A:Nat)(aw:m v=B r)(b:(go u n A N).vx=T:=by kernel_rfl)(d:n1 (So (a v)) (go u n A N).d1=B (a v):=by kernel_rfl):TS u K n N (vG u K n eU ah a m r):=h5 A _ aw b d
variable{s S eB:Type}{eU:E oP}{y:s->cP}{a:s⊕S}{av:fE}{C:eB->S}{i:eB->cP}
def mK{ao:s}(d:a=.inl ao)(b:N.vx=T:=by kernel_rfl)(g:n1 (So (y ao)) N.d1=B (y ao):=by kernel_rfl):TS u K n N (sU u K n eU ah y a av C i):=Ff ao _ d b g
def aj3{l:eB}(d:a=.inr (C l))(g:N.sL=T:=by kernel_rfl)(b:N.gQ=av:=by kernel_rfl)(j:n1 (So (i l)) N.d1=B (i l):=by kernel_rfl):TS u K n N (sU u K n eU ah y a av C i):=aie l _ d g b j
variable{i:Type}
theorem aml(A:Nat){i:s->X (s⊕S)}{b:s}{x:S->X D}{r:D}(h:(dq i b).bind x=B r)(f:i5)(d:s->E (Nat×cT))(iO:s->E (Nat×eD))(g:Nat)(j:i5)(m:S->E (Nat×cT))(k:S->E (Nat×eD))
  (C:∀p,x p=B r->∀q a,i q=B a->(∀o,a=.inr o->o=p)->TS u K n ((go u n A N).body<|(kb f (go u n A N).d1).kf (d q)<|iO q) (sU u K n (go u n A N).rest ah (λq=>(kb f (go u n A N).d1).kf (d q)<|iO q) a (.exit g) (λl:S=>l) λl=>(kb j (go u n A N).d1).kf (m l)<|k l))
  (y:∀l,x l=B r->TS u K n (.mk (go u n A N).rest (.exit g)<|(kb j (go u n A N).d1).kf (m l)<|k l) ah)
  (t:(go u n A N).vE=T:=by kernel_rfl)(dI:n1 f (go u n A N).d1=B ((kb f (go u n A N).d1).kf (d b)<|iO b):=by kernel_rfl):TS u K n N ah:=by
 have⟨o,cN,af⟩:=ls h;exact cV A (wO i f d iO b o (.exit g) (λl=>l) j m k cN t dI ef λl z=>y l cU)
theorem eQ(A:Nat){i:s->X (s⊕S)}{k:s}{x:S->X D}{r:D}(h:(dq i k).bind x=B r)(f:i5)(b:s->E (Nat×cT))(iO:s->E (Nat×eD))(d:Nat)(g:i5)(m:S->E (Nat×cT))(j:S->E (Nat×eD))
  (t:∀q a,i q=B a->TS u K n ((go u n A N).body<|(kb f (go u n A N).d1).kf (b q)<|iO q) (sU u K n (go u n A N).rest ah (λq=>(kb f (go u n A N).d1).kf (b q)<|iO q) a (.exit d) (λl:S=>l) λl=>(kb g (go u n A N).d1).kf (m l)<|j l))
  (p:∀l,x l=B r->TS u K n (.mk (go u n A N).rest (.exit d)<|(kb g (go u n A N).d1).kf (m l)<|j l) ah)
  (o:(go u n A N).vE=T:=by kernel_rfl)(dI:n1 f (go u n A N).d1=B ((kb f (go u n A N).d1).kf (b k)<|iO k):=by kernel_rfl):TS u K n N ah:=
 aml A h f b iO d g m j cU p o dI
theorem lY(A:Nat){i:s->X (s⊕(eB⊕S))}{b:s}{x:eB->X D}{aN:S->X D}{r:D}(h:((dq i b).bind λo=>ku x aN o)=B r)(f:i5)(d:s->E (Nat×cT))(iO:s->E (Nat×eD))(g:Nat)(j:i5)(m:eB->E (Nat×cT))(k:eB->E (Nat×eD))
  (C:∀p,ku x aN p=B r->∀q a,i q=B a->(∀o,a=.inr o->o=p)->TS u K n ((go u n A N).body<|(kb f (go u n A N).d1).kf (d q)<|iO q) (sU u K n (go u n A N).rest ah (λq=>(kb f (go u n A N).d1).kf (d q)<|iO q) a (.exit g) (λl:eB=>(dV l:eB⊕S)) λl=>(kb j (go u n A N).d1).kf (m l)<|k l))
  (y:∀l,x l=B r->TS u K n (.mk (go u n A N).rest (.exit g)<|(kb j (go u n A N).d1).kf (m l)<|k l) ah)
  (t:(go u n A N).vE=T:=by kernel_rfl)(dI:n1 f (go u n A N).d1=B ((kb f (go u n A N).d1).kf (d b)<|iO b):=by kernel_rfl):TS u K n N ah:=by
 have⟨o,cN,af⟩:=ls h;exact cV A (wO i f d iO b o (.exit g) (λl=>dV l) j m k cN t dI ef λl z=>y l cU)
def fR{S:Type}(A:Nat)(f:i5)(a:i->E (Nat×cT))(iO:i->E (Nat×eD))(m:i->X S)(r:S)(aw:∀v,m v=B r->TS u K n ((go u n A N).T8 ((kb f (go u n A N).d1).kf (a v) (iO v))) ah)
 (d:TS u K n (go u n A N).NL (vG u K n (go u n A N).rest ah (λv=>(kb f (go u n A N).d1).kf (a v)<|iO v) m r)):TS u K n N ah:=cV A<|X8 f a iO m r aw d
theorem cJ{u:dw}{K:fb}{n:Nat}{N:dT}{ah:fE->cP->Prop}{ag:Type}{t l:ag}(A:Nat)(h:B t=B l)(a:t=l->TS u K n (go u n A N) ah:=by intro e;cases e;exact AZ J J J):TS u K n N ah:=cV A cU
theorem ey{u:dw}{K:fb}{n:Nat}{N:dT}{ah:fE->cP->Prop}{ag:Type}{t l:ag}(A:Nat)(h:B t=B l)(a:t=l->TS u K n (go u n A N) ah:=by intro e;cases e;exact mK rfl):TS u K n N ah:=cV A cU
theorem eo{u:dw}{K:fb}{n:Nat}{N:dT}{ah:fE->cP->Prop}{ag:Type}{t l:ag}(A:Nat)(h:B t=B l)(a:t=l->TS u K n (go u n A N) ah:=by intro e;cases e;exact aj3 rfl):TS u K n N ah:=cV A cU
variable{i:eB->cP}
theorem nv(A:Nat){v b:S}{x:S->X D}{r:D}(h:B (du v)=B a)(ad:∀o,a=.inr o->o=b)(k:x b=B r)(g:x v=B r->TS u K n ((go u n A N).l_ eU) ah)(j:(go u n A N).sL=T:=by kernel_rfl):TS u K n N (sU u K n eU ah y a av C i):=by have d:=(mg h).symm;exact cV A<|Yc d j cU
def iB{j b:Type}{a:s⊕(j⊕b)}{C:eB->j⊕b}(A:Nat){v:b}{k:j⊕b}{aS:j->X D}{x:b->X D}{r:D}(h:B (du (du v))=B a)(ad:∀o,a=.inr o->o=k)(l:ku aS x k=B r)(g:x v=B r->TS u K n ((go u n A N).l_ eU) ah)(m:(go u n A N).sL=T:=by kernel_rfl):TS u K n N (sU u K n eU ah y a av C i):=by have d:=(mg h).symm;refine cV A<|Yc d m<|g ?_;rwa[<-ad _ d]at l
theorem ha(A:Nat)(b:E (E Nat))(m:Nat){y:X Bool}{a o:Bool->X D}{r:D}{f:gk}{ak:E cT}{S:Bool->cT}(h:(y.bind λv=>bif v then a v else o v)=B r)(Y:∀v,y=B v->ih u f ak [] (S v) [])(g:a T=B r->TS u K n (go u n m ((go u n A N).ret (S T))).cY ah)(i:o Z=B r->TS u K n (go u n m ((go u n A N).ret (S Z))).cY ah)(d:(go u n A N).callee b=B (f,ak):=by kernel_rfl)(ar:∀v,((go u n A N).ft n&&iz u f&&(S v).eY V.il)=T:=by intro _;kernel_rfl):TS u K n N ah:=nF A b h Y (λv h=>match v,h with|true,h=>cV m (Ly cU)|false,h=>cV m<|Ly cU) d ar
theorem hu(A:Nat)(b:E (E Nat))(m:Nat){y:X Bool}{a:Bool->X D}{r:D}{f:gk}{ak:E cT}{S:Bool->cT}(h:(y.bind λv=>bif v then a v else M)=B r)(Y:∀v,y=B v->ih u f ak [] (S v) [])(g:a T=B r->TS u K n (go u n m ((go u n A N).ret (S T))).cY ah)(d:(go u n A N).callee b=B (f,ak):=by kernel_rfl)(ar:∀v,((go u n A N).ft n&&iz u f&&(S v).eY V.il)=T:=by intro _;kernel_rfl):TS u K n N ah:=ha A b m (o:=λ_=>M) h Y g cU d ar
theorem Bm(A:Nat)(a:E (E Nat))(m:Nat){y:X Bool}{o:Bool->X D}{r:D}{f:gk}{ak:E cT}{S:Bool->cT}(h:(y.bind λv=>bif v then M else o v)=B r)(Y:∀v,y=B v->ih u f ak [] (S v) [])(d:o Z=B r->TS u K n (go u n m ((go u n A N).ret (S Z))).cY ah)(b:(go u n A N).callee a=B (f,ak):=by kernel_rfl)(ar:∀v,((go u n A N).ft n&&iz u f&&(S v).eY V.il)=T:=by intro _;kernel_rfl):TS u K n N ah:=ha A a m (a:=λ_=>M) h Y cU d b ar
def qY(u:dw)(f:gk):Func:=(u.funcs[f]?).getD default
def Bn(u:dw)(f:gk):Code:=match(qY u f).body with
 |some c=>c
 |none=>.skip
def dc{u:dw}{f:gk}{args:E cT}{h aF:fK}{r:cT}(ax:∀{K},TS u K (qY u f).ntmps (.mk [.code (Bn u f)] .normal ⟨lV 0 args,h⟩) (Hb u (qY u f) (MN r) (MM aF) r aF))(g:((u.funcs[f]?).isSome&&(qY u f).body.isSome&&decide (F args<=(qY u f).ntmps/\(qY u f).ntmps<=2000000))=T:=by kernel_rfl):ih u f args h r aF:=by
 simp only[fz]at g;have⟨⟨G,j⟩,d⟩:=g;have⟨b,i⟩:=lb.1 G;have e:qY u f=b:=by unfold qY;rw[i];rfl
 have⟨c,a⟩:=lb.1 j;have aD:Bn u f=c:=by unfold Bn;rw[a]
 replace ax:=λK=> @ax K
 rw[e,aD]at ax;rw[e]at d a;exact RW (MN r) (MM aF) b.ntmps i a rfl d ax
def gZ{u:dw}{K:fb}{n:Nat}{N:dT}{ah:fE->cP->Prop}(A:Nat)(f:gk)(g:∀{a},TS u a A (N.inl (Bn u f)) (By u K n N (qY u f).results.toList ah))(i:((u.funcs[f]?).isSome&&(qY u f).body.isSome&&decide ((qY u f).ntmps=A))=T:=by kernel_rfl)(ar:N.Gc u n A f=T:=by kernel_rfl):TS u K n N ah:=by
 simp only[fz]at i;have⟨⟨G,l⟩,d⟩:=i;have⟨k,j⟩:=lb.1 G;have e:qY u f=k:=by unfold qY;rw[j];rfl
 have⟨c,b⟩:=lb.1 l;have aD:Bn u f=c:=by unfold Bn;rw[b]
 replace g:=λa=> @g a
 rw[e,aD]at g;rw[e]at d b;exact ail A j b (f8 d) ar g
def LV(u:dw)(_:cP)(y:dy):X (E V):=match y.op with
 |.alloc a=>((u.info? a).bind (·.zero)).map λan=>an.cells.toList.map V.cY
 |_=>M
def ald{u:dw}{q:cP}{y:dy}{a:E V}(h:LV u q y=B a):jP u y q (.c (.e1 a)):=by
 unfold LV at h;split at h;rotate_left;cases h;rename_i g cK;obtain⟨an,N,rfl⟩:=gG.1 h;have⟨j,hi,N⟩:=jc.1 N;intro x rd ak w k;unfold mSafe;simp only[execOp,cK,Instr.alloc,zeroValue,typeInfo,program,hi,N,newVar,newRow,newObj,g3,hM,mZ,gn];refine⟨Ext.alloc _ _,λl i d=>?_⟩;have key:∀(m:Nat) (o:V),(an.cells.toList.map V.cY)[m]?=B o->∃p,an.cells[m]?=B p/\o=.cY p:=by intro m o ad;rw[gy]at ad;obtain⟨p,aA,rfl⟩:=gG.1 ad;exact⟨p,Ll,rfl⟩
 refine .e1 w.heap.size 0 _ (λm=>(an.cells[m]?).getD undef) (λm o ad=>?_) λm o ad=>?_
 .have⟨p,G,_⟩:=key m o ad;refine d _ _ _ (jq _) ?_;have b:=World.cell?_alloc_at (w:=w) an.cells g w.heap.size m rfl;rw[gx];refine Cn ?_<|Cn b ?_
  .rfl
  .rw[G];rfl
 .obtain⟨p,G,rfl⟩:=key m o ad;rw[G];exact .cY p
def aiX{u:dw}{K:fb}{n:Nat}{N:dT}{ah:fE->cP->Prop}(A:Nat)(g:TS u K n ((go u n A N).ret (.c (.e1 (((go u n A N).fQ (LV u)).getD [])))) ah)(h:(((go u n A N).fQ (LV u)).isSome&&(go u n A N).ft n)=T:=by kernel_rfl):TS u K n N ah:=by simp only[fz]at h;have⟨b,a⟩:=lb.1 h.1;rw[a]at g;exact cV A (l8 _ h.2 (λ_ _ cK=>ald<|jb a cK) g)
def Gn(u:dw)(n A:Nat)(N:dT)(i e sz:Nat)(f:q->E V)(s:E q):dT:=(go u n A N).next (((go u n A N).d1.f3 i (.fw e sz (F s))).put (B i) (.c (.d_ sz (i+2) (F s) (s.map f))))
def Gp(u:dw)(n:Nat)(P:fX)(i e sz:Nat)(f:q->E V)(s:E q):fX:=P.push ⟨P.need,B i,.c (.d_ sz (i+2) (F s) (s.map f)),B (i,.fw e sz (F s)),T,M,[]⟩
def jL(A i e sz:Nat)(f:q->E V)(o:E Nat)(d j:Nat){m:Nat}{l b:E q}{c:cQ}{x:E q->X D}{r:D}(h:(ej m l (c.cL b)).bind x=B r)(g:∀k,x k=B r->TS u K n ((go u n d (Gn u n A N i e sz f b)).next (((go u n d (Gn u n A N i e sz f b)).d1.f3 j (.fw e sz (F k))).put (go u n d (Gn u n A N i e sz f b)).dst (.c (.d_ sz (j+2) (F k) (k.map f))))) ah)(y:∀a,(f a).all V.one=T:=by intro _;kernel_rfl)(t:(go u n d (Gn u n A N i e sz f b)).fQ (rH u)=B (j,e,sz,m,F l,F l,l.map f,b.map f,c):=by kernel_rfl)(ar:(go u n d (Gn u n A N i e sz f b)).ft n=T:=by kernel_rfl)(p:(go u n A N).fQ (vI u o)=B (e,sz,b.map f):=by kernel_rfl)(s:(go u n A N).k2 n i=T:=by kernel_rfl):TS u K n N ah:=i1 A i e sz f o b (nm d j e sz f h g y t ar) p s
def pR(i e sz:Nat)(f:q->E V)(o:E Nat)(d j:Nat){m:Nat}{l b:E q}{c:cQ}{x:E q->X D}{r:D}(h:(ej m l (c.cL b)).bind x=B r)(g:∀k,x k=B r->TD u K n ((goD u n d (Gp u n P i e sz f b)).push ⟨(goD u n d (Gp u n P i e sz f b)).need,(goD u n d (Gp u n P i e sz f b)).dst,.c (.d_ sz (j+2) (F k) (k.map f)),B (j,.fw e sz (F k)),Z,M,[]⟩) ah)(y:∀a,(f a).all V.one=T:=by intro _;kernel_rfl)(t:(goD u n d (Gp u n P i e sz f b)).fQ (rH u)=B (j,e,sz,m,F l,F l,l.map f,b.map f,c):=by kernel_rfl)(ar:(goD u n d (Gp u n P i e sz f b)).ft n=T:=by kernel_rfl)(p:(P).fQ (vI u o)=B (e,sz,b.map f):=by kernel_rfl)(s:(P).k2 n i=T:=by kernel_rfl):TD u K n P ah:=o5 i e sz f o b p s (Bo d j e sz f h g y t ar)
def qT{z:Prop}(a:z:=by exact dc<|cV 8<|X6 (ae:=jv k g) J J (λl=>have l:=tq.1 l;by subst l;exact have i:(B<|[])=B d:=i;dt 1<|f9 4 2 600000 j b<|dj 0 (eE [2] [(600000,900000)])<|cJ 2 i)<|dt 1<|i1 3 5 j b k [] []<|nm 1 5 j b k i λ_ i=>dj 2 (eE [2] [(5,900000)])<|cJ 1 i):z:=a
def qr{z:Prop}(a:z:=by exact dc<|cV 8<|X6 (ae:=jv k g) J J (λl=>have l:=tq.1 l;by subst l;exact have i:(B<|[])=B d:=i;dt 1<|cV 4<|wP 2 600000 j b J<|dj 0 (eE [2] [(600000,900000)])<|cJ 2 i)<|dt 1<|cV 3<|Lx 5 j b k [] [] J J<|o9 1 5 j b k i λ_ i=>dj 2 (eE [2] [(5,900000)])<|cJ 1 i):z:=a
section
attribute [local irreducible] TS go TD goD
structure iD where
 l:E Int
 at_:Int
def iD.cs(a:iD):E V:=[eS 1 (c4 W) (a.l)]++[.cY (.int W (a.at_))]
structure eW where
 en:E Int
 fu:Int
def eW.cs(a:eW):E V:=ek cH 16 a.en++[.cY (.int W (a.fu))]
def eW.fV(a o:eW):Bool:=(nn 16 a.en o.en)&&((a.fu==o.fu)&&T)
structure gl where
 ed:eW
 dU:eW
def gl.cs(a:gl):E V:=eW.cs a.ed++eW.cs a.dU
def gl.fV(a o:gl):Bool:=(eW.fV a.ed o.ed)&&((eW.fV a.dU o.dU)&&T)
structure gj where
 oa:Int
 o3:eW
 OM:Bool
 ge:Int
def gj.cs(a:gj):E V:=[.cY (.int W (a.oa))]++eW.cs a.o3++[.cY (.bool (a.OM))]++[.cY (.int W (a.ge))]
structure ix where
 h1:Int
 hJ:E Int
 yv:E Int
 o2:Int
 m1:E (E Int)
 gu:E gl
 m0:E gj
def ix.cs(a:ix):E V:=[.cY (.int cZ (a.h1))]++ek cH 16 a.hJ++ek cH 16 a.yv++[.cY (.int fW (a.o2))]++[eS 16 (ek cH 16) (a.m1)]++[eS 34 gl.cs (a.gu)]++[eS 20 gj.cs (a.m0)]
structure h9 where
 K_:Int
 hJ:E Int
def h9.cs(a:h9):E V:=[.cY (.int cH (a.K_))]++ek cH 16 a.hJ
def h9.fV(a o:h9):Bool:=(a.K_==o.K_)&&((nn 16 a.hJ o.hJ)&&T)
structure fj where
 Mode:Int
 tN:Int
 h1:Int
def fj.cs(a:fj):E V:=[.cY (.int W (a.Mode))]++[.cY (.int fW (a.tN))]++[.cY (.int cZ (a.h1))]
def fj.fV(a o:fj):Bool:=(a.Mode==o.Mode)&&((a.tN==o.tN)&&((a.h1==o.h1)&&T))
structure e_ where
 dU:fj
 hJ:Int
 gV:Int
 kT:Int
def e_.cs(a:e_):E V:=fj.cs a.dU++[.cY (.int cH (a.hJ))]++[.cY (.int e9 (a.gV))]++[.cY (.int e9 (a.kT))]
structure eR where
 jj:E h9
 eJ:Int
 h3:Int
 it:Int
 d8:E e_
def eR.cs(a:eR):E V:=[eS 17 h9.cs (a.jj)]++[.cY (.int e9 (a.eJ))]++[.cY (.int e9 (a.h3))]++[.cY (.int e9 (a.it))]++[eS 6 e_.cs (a.d8)]
structure gE where
 nf:Bool
 jH:Int
 iF:Int
 Next:Int
 kR:Int
def gE.cs(a:gE):E V:=[.cY (.bool (a.nf))]++[.cY (.int cH (a.jH))]++[.cY (.int W (a.iF))]++[.cY (.int fW (a.Next))]++[.cY (.int W (a.kR))]
def gE.fV(a o:gE):Bool:=(a.nf==o.nf)&&((a.jH==o.jH)&&((a.iF==o.iF)&&((a.Next==o.Next)&&((a.kR==o.kR)&&T))))
structure fh where
 eb:Int
 iQ:gE
 ge:Int
 uA:Int
def fh.cs(a:fh):E V:=[.cY (.int cZ (a.eb))]++gE.cs a.iQ++[.cY (.int W (a.ge))]++[.cY (.int W (a.uA))]
structure c0 where
 ed:eW
 dU:eW
 dW:Int
def c0.cs(a:c0):E V:=eW.cs a.ed++eW.cs a.dU++[.cY (.int cZ (a.dW))]
def c0.fV(a o:c0):Bool:=(eW.fV a.ed o.ed)&&((eW.fV a.dU o.dU)&&((a.dW==o.dW)&&T))
structure e2 where
 dx:Int
 ff:Int
def e2.cs(a:e2):E V:=[.cY (.int fW (a.dx))]++[.cY (.int W (a.ff))]
def e2.fV(a o:e2):Bool:=(a.dx==o.dx)&&((a.ff==o.ff)&&T)
structure eh where
 c3:c0
 si:e2
 ge:Int
def eh.cs(a:eh):E V:=c0.cs a.c3++e2.cs a.si++[.cY (.int W (a.ge))]
structure dL where
 c3:c0
 eb:Int
 mF:e2
 ge:Int
def dL.cs(a:dL):E V:=c0.cs a.c3++[.cY (.int cZ (a.eb))]++e2.cs a.mF++[.cY (.int W (a.ge))]
structure dH where
 c3:c0
 eb:Int
 fU:e2
 kO:Int
 ge:Int
def dH.cs(a:dH):E V:=c0.cs a.c3++[.cY (.int cZ (a.eb))]++e2.cs a.fU++[.cY (.int W (a.kO))]++[.cY (.int W (a.ge))]
structure eq where
 c3:c0
 dx:Int
 e3:Int
 Qt:Int
 Next:Int
 iG:Int
def eq.cs(a:eq):E V:=c0.cs a.c3++[.cY (.int fW (a.dx))]++[.cY (.int W (a.e3))]++[.cY (.int cZ (a.Qt))]++[.cY (.int W (a.Next))]++[.cY (.int W (a.iG))]
structure dB where
 c3:c0
 fU:e2
def dB.cs(a:dB):E V:=c0.cs a.c3++e2.cs a.fU
structure h_ where
 fJ:E dB
 oQ:Int
def h_.cs(a:h_):E V:=[eS 37 dB.cs (a.fJ)]++[.cY (.int W (a.oQ))]
structure fH where
 hr:Int
 dx:Int
 j7:Int
 gH:Int
 i3:Int
 jk:Int
 gu:E gl
 eg:E fh
 gT:E eh
 gX:E dL
 hh:E dH
 hj:E eq
 gI:h_
def fH.cs(a:fH):E V:=[.cY (.int cZ (a.hr))]++[.cY (.int fW (a.dx))]++[.cY (.int W (a.j7))]++[.cY (.int W (a.gH))]++[.cY (.int fW (a.i3))]++[.cY (.int W (a.jk))]++[eS 34 gl.cs (a.gu)]++[eS 8 fh.cs (a.eg)]++[eS 38 eh.cs (a.gT)]++[eS 39 dL.cs (a.gX)]++[eS 40 dH.cs (a.hh)]++[eS 40 eq.cs (a.hj)]++h_.cs a.gI
structure fq where
 iY:Int
 eA:Int
 iX:Int
 gA:E Int
def fq.cs(a:fq):E V:=[.cY (.int W (a.iY))]++[.cY (.int fW (a.eA))]++[.cY (.int W (a.iX))]++[eS 1 (c4 cH) (a.gA)]
structure eG where
 dU:fj
 ed:fj
 eA:Int
 iY:Int
 j5:E fq
 ge:Int
def eG.cs(a:eG):E V:=fj.cs a.dU++fj.cs a.ed++[.cY (.int fW (a.eA))]++[.cY (.int W (a.iY))]++[eS 4 fq.cs (a.j5)]++[.cY (.int W (a.ge))]
def eG.ol(a:eG):E V:=(eG.cs a).map V.hG
structure es where
 c3:Int
 eJ:Int
 Bytes:E Int
 iG:Int
 mz:Int
def es.cs(a:es):E V:=[.cY (.int cZ (a.c3))]++[.cY (.int e9 (a.eJ))]++[eS 1 (c4 cH) (a.Bytes)]++[.cY (.int W (a.iG))]++[.cY (.int W (a.mz))]
structure Lp where
 EN:Int
 afT:Int
 ahG:Int
 ahS:Int
 ago:Int
 agk:Int
 jH:Int
 agl:Bool
def Lp.cs(a:Lp):E V:=[.cY (.int W (a.EN))]++[.cY (.int W (a.afT))]++[.cY (.int W (a.ahG))]++[.cY (.int W (a.ahS))]++[.cY (.int W (a.ago))]++[.cY (.int W (a.agk))]++[.cY (.int W (a.jH))]++[.cY (.bool (a.agl))]
structure yE where
 ga:Int
 gA:E Int
 aiK:Lp
 ge:Int
def yE.cs(a:yE):E V:=[.cY (.int W (a.ga))]++[eS 1 (c4 cH) (a.gA)]++Lp.cs a.aiK++[.cY (.int W (a.ge))]
structure hR where
 oa:Int
 EN:Int
 agm:E yE
def hR.cs(a:hR):E V:=[.cY (.int cZ (a.oa))]++[.cY (.int W (a.EN))]++[eS 11 yE.cs (a.agm)]
structure kS where
 vi:Int
 gA:E Int
 eA:E Int
def kS.cs(a:kS):E V:=[.cY (.int W (a.vi))]++[eS 1 (c4 cH) (a.gA)]++ek cH 8 a.eA
structure kl where
 sB:Int
 ga:Int
 gA:E Int
def kl.cs(a:kl):E V:=[.cY (.int cZ (a.sB))]++[.cY (.int W (a.ga))]++[eS 1 (c4 cH) (a.gA)]
structure iw where
 agn:E Int
 ahD:E Int
 ahQ:Int
 ge:Int
def iw.cs(a:iw):E V:=ek cH 16 a.agn++ek cH 16 a.ahD++[.cY (.int W (a.ahQ))]++[.cY (.int W (a.ge))]
structure d3 where
 gS:ix
 dl:eR
 dx:Int
 jx:Bool
 eA:Int
 ga:Int
 rl:Int
 tw:Int
 o4:Int
 dW:fH
 g1:E eG
 ex:E es
 ni:E hR
 j9:kS
 pL:E kl
 oJ:E iw
def d3.cs(a:d3):E V:=ix.cs a.gS++eR.cs a.dl++[.cY (.int cH (a.dx))]++[.cY (.bool (a.jx))]++[.cY (.int fW (a.eA))]++[.cY (.int e9 (a.ga))]++[.cY (.int W (a.rl))]++[.cY (.int W (a.tw))]++[.cY (.int W (a.o4))]++fH.cs a.dW++[eS 10 eG.cs (a.g1)]++[eS 5 es.cs (a.ex)]++[eS 3 hR.cs (a.ni)]++kS.cs a.j9++[eS 3 kl.cs (a.pL)]++[eS 34 iw.cs (a.oJ)]
structure gm where
 c3:Int
 p8:Int
 Bytes:E Int
def gm.cs(a:gm):E V:=[.cY (.int W (a.c3))]++[.cY (.int W (a.p8))]++[eS 1 (c4 cH) (a.Bytes)]
structure ee where
 ig:Int
 ij:Int
 Next:Int
 e3:Int
 dU:E Int
 ed:E Int
 j_:Int
 gM:Int
 f7:E Int
def ee.cs(a:ee):E V:=[.cY (.int cH (a.ig))]++[.cY (.int e9 (a.ij))]++[.cY (.int cH (a.Next))]++[.cY (.int cH (a.e3))]++ek cH 16 a.dU++ek cH 16 a.ed++[.cY (.int fW (a.j_))]++[.cY (.int fW (a.gM))]++[eS 1 (c4 cH) (a.f7)]
structure gP where
 gi:Int
 oY:Int
 ga:Int
 Next:Int
 lM:ee
 gA:E Int
 afU:Int
def gP.cs(a:gP):E V:=[.cY (.int W (a.gi))]++[.cY (.int cZ (a.oY))]++[.cY (.int e9 (a.ga))]++[.cY (.int cZ (a.Next))]++ee.cs a.lM++[eS 1 (c4 cH) (a.gA)]++[.cY (.int W (a.afU))]
structure gK where
 aiJ:Int
 sB:Int
 hC:gP
def gK.cs(a:gK):E V:=[.cY (.int W (a.aiJ))]++[.cY (.int W (a.sB))]++gP.cs a.hC
structure eZ where
 fg:Int
 fB:E d3
 eg:E (E Bool)
 hU:E Bool
 hg:E gm
 jr:E Int
 fI:E gK
def eZ.cs(a:eZ):E V:=[.cY (.int W (a.fg))]++[eS 78 d3.cs (a.fB)]++[eS 1 (jK 1 i0) (a.eg)]++[eS 1 i0 (a.hU)]++[eS 3 gm.cs (a.hg)]++[eS 1 (c4 cH) (a.jr)]++[eS 47 gK.cs (a.fI)]
structure pM where
 gi:Int
 A:Int
 eB:Int
 rx:Bool
 ga:Int
 lM:ee
 gA:E Int
 j9:kS
 afS:iw
def pM.cs(a:pM):E V:=[.cY (.int W (a.gi))]++[.cY (.int W (a.A))]++[.cY (.int W (a.eB))]++[.cY (.bool (a.rx))]++[.cY (.int W (a.ga))]++ee.cs a.lM++[eS 1 (c4 cH) (a.gA)]++kS.cs a.j9++iw.cs a.afS
structure i4 where
 eC:eZ
def i4.cs(a:i4):E V:=eZ.cs a.eC
structure fs where
 n:d3
 now:Int
 yZ:Int
 eL:E (E Int)
 im:E gP
def fs.cs(a:fs):E V:=d3.cs a.n++[.cY (.int W (a.now))]++[.cY (.int e9 (a.yZ))]++[eS 1 (jK 1 (c4 cH)) (a.eL)]++[eS 45 gP.cs (a.im)]
structure l7 where
 Cw:Int
 oY:Int
 ga:Int
 c3:c0
def l7.cs(a:l7):E V:=[.cY (.int W (a.Cw))]++[.cY (.int cZ (a.oY))]++[.cY (.int e9 (a.ga))]++c0.cs a.c3
structure tM where
 R0:Bool
 id:Int
 Gx:Int
 bytes:E Int
def tM.cs(a:tM):E V:=[.cY (.bool (a.R0))]++[.cY (.int W (a.id))]++[.cY (.int W (a.Gx))]++[eS 1 (c4 cH) (a.bytes)]
structure jI where
 value:Int
 bytes:Int
def jI.cs(a:jI):E V:=[.cY (.int cZ (a.value))]++[.cY (.int W (a.bytes))]
structure hd where
 gi:Int
 OK:Bool
 XB:Bool
 qH:Bool
 dx:Int
 o2:Int
 ed:fj
 dU:fj
 eJ:Int
 hJ:Int
 f7:E Int
 pH:E Int
def hd.cs(a:hd):E V:=[.cY (.int W (a.gi))]++[.cY (.bool (a.OK))]++[.cY (.bool (a.XB))]++[.cY (.bool (a.qH))]++[.cY (.int cH (a.dx))]++[.cY (.int fW (a.o2))]++fj.cs a.ed++fj.cs a.dU++[.cY (.int e9 (a.eJ))]++[.cY (.int cH (a.hJ))]++[eS 1 (c4 cH) (a.f7)]++[eS 1 (c4 cH) (a.pH)]
structure XK where
 b:E Int
 iZ:Bool
def XK.cs(a:XK):E V:=[eS 1 (c4 cH) (a.b)]++[.cY (.bool (a.iZ))]
structure jy where
 b:E Int
 at_:Int
def jy.cs(a:jy):E V:=[eS 1 (c4 cH) (a.b)]++[.cY (.int W (a.at_))]
structure d9 where
 gi:Int
 dx:Int
 ff:Int
 eb:Int
 c3:c0
 e3:Int
def d9.cs(a:d9):E V:=[.cY (.int W (a.gi))]++[.cY (.int fW (a.dx))]++[.cY (.int W (a.ff))]++[.cY (.int cZ (a.eb))]++c0.cs a.c3++[.cY (.int W (a.e3))]
def d9.fV(a o:d9):Bool:=(a.gi==o.gi)&&((a.dx==o.dx)&&((a.ff==o.ff)&&((a.eb==o.eb)&&((c0.fV a.c3 o.c3)&&((a.e3==o.e3)&&T)))))
structure kx where
 kD:E Int
 rY:Int
 dst:E Int
def kx.cs(a:kx):E V:=[eS 1 (c4 cH) (a.kD)]++[.cY (.int cZ (a.rY))]++ek cH 16 a.dst
structure hq where
 c3:Int
 EQ:E d9
def hq.cs(a:hq):E V:=[.cY (.int cZ (a.c3))]++[eS 40 d9.cs (a.EQ)]
structure fP where
 r:fH
 now:Int
 jS:Int
 all:E d9
 ic:E hq
def fP.cs(a:fP):E V:=fH.cs a.r++[.cY (.int W (a.now))]++[.cY (.int cZ (a.jS))]++[eS 40 d9.cs (a.all)]++[eS 2 hq.cs (a.ic)]
structure fO where
 eb:Int
 ii:Int
def fO.cs(a:fO):E V:=[.cY (.int cZ (a.eb))]++[.cY (.int W (a.ii))]
def fO.fV(a o:fO):Bool:=(a.eb==o.eb)&&((a.ii==o.ii)&&T)
structure mm where
 eb:Int
 ii:Int
 kO:Int
def mm.cs(a:mm):E V:=[.cY (.int cZ (a.eb))]++[.cY (.int W (a.ii))]++[.cY (.int W (a.kO))]
structure yD where
 oa:Int
 ga:Int
 gA:E Int
def yD.cs(a:yD):E V:=[.cY (.int cZ (a.oa))]++[.cY (.int W (a.ga))]++[eS 1 (c4 cH) (a.gA)]
structure u9 where
 oa:Int
 EN:Int
 fu:Int
def u9.cs(a:u9):E V:=[.cY (.int cZ (a.oa))]++[.cY (.int W (a.EN))]++[.cY (.int e9 (a.fu))]
def akK:ON h6 106 Cm:=⟨_,Tryz.func106,J,J⟩
def IF(a:E Int):X iD:=B ((iD.mk a 0))
def z2(a:E Int):X iD:=cond (decide ((F a:Int)>400)) (O (g2 a 0 400) λb=>(IF) b)<|(IF) a
abbrev dX(f:gk)(ak:E cT)(R:cT):Prop:=ih h6 f ak [] R []
abbrev ei(f:gk)(ak:E cT)(H:fK)(R:cT)(aq:fK):Prop:=ih h6 f ak H R aq
abbrev Fv:=cX [0] []
def acz{b}(r)(h:z2 b=B r):ei 5 [dJ 1 (c4 W) b] [] (eO 10) [(10,.box (iD.cs r))]:=RW [] [(10,[2])] 11 Tryz.func5 rfl rfl J λK=>fR 4 Fv (λa=>[(0,dJ 1 (c4 W) a)]) (λa=>[]) (IF) r (λa h=>cJ 8 h)<|c7 6 [5] [] h (λh=>kh 2 (c4 W) 1 h λd h=>dQ 2 h) λh=>dQ 1 h
def IH(a:iD)(b:Int):X (Int×Int):=B ((b,U W (a.at_+1)))
def pC(a:iD)(b:Int):X (Int×Int):=cond (decide (a.at_>=(F a.l:Int))) (B ((0,a.at_)))<|O (di a.l a.at_) λaD=>cond (decide (b≠0)) (cond (decide ((hc aD b)<0)) ((IH a) (U W ((hc aD b)+b)))<|(IH a) (hc aD b)) M
def rU{a b}(r)(h:pC a b=B r):ei 6 [eO df,cS b] [(df,.box (iD.cs a))] ((cS r.1)) [(df,.box ((iD.cs ({a with at_:=r.2}))))]:=dc<|dK 6 10<|dG 0 0<|c7 0 [15] [] h (λh=>cJ 6 h) λh=>dK 2 8<|hE 0 (c4 W) h λaD h=>eX h λg h=>fa 2<|AW (op:=.rem) (g:=W) (b:=W) (A:=aD) (j:=b) (f8 g) rfl dh J J<|dG 1 11<|fR 0 (cX [5] [df]) (λd=>[(5,cS d)]) (λd=>[]) (IH a) r (λd h=>cJ 6 h)<|c7 5 [36] [] h (λh=>dQ 6 h) λh=>dQ 1 h
def EB(a:Int):X Int:=B (U cZ (U W (144115188075855873+a)))
def adm{a}(r)(h:EB a=B r):dX 34 [cS a] (.c (d6 r)):=dc<|cJ 12 h
def afZ(b:Int)(a:Int×E Int):X ((Int×E Int)⊕((E Int))):=cond (decide (a.1<16)) (cond (decide ((0:Int)<=a.1/\a.1<(16:Int))) (B (dV (U W (a.1+1),(qw 16 a.2 (cM a.1) (U cH (U W ((U W (17*b))+a.1))))))) M)<|B (du a.2)
def Pc(a:Int):X (E Int):=O (dq (afZ a) (0,eP)) λb=>B (b)
def acy{d}(r)(h:Pc d=B r):dX 39 [cS d] (.agg (ek cH 16 r)):=dc<|eQ 14 h (cX [0,2,3,4] [2,3]) (λb=>[(4,cS b.1)]) (λb=>[(3,.box<|ek cH 16 b.2)]) 0 (cX [2,3] [2,3]) (λg=>[]) (λg=>[(3,.box<|ek cH 16 g)]) (λb a h=>c7 6 [6] [] h (λh=>eX h λi h=>cV 10<|yI 3 0 16 (j:=b.1) i J J<|Q_ (g:=cH) (i:=3) 0 16 (j:=b.1) (v:=U cH<|U W<|(U W<|17*d)+b.1) b.2 (pre:=[]) (post:=[]) i J J J<|ey 7 h) λh=>eo 2 h) λg h=>cJ 7 h
def agb(b d:Int)(a:Int×E Int):X ((Int×E Int)⊕((E Int))):=cond (decide (a.1<8)) (cond (decide (0<=(U cZ (56-(U cZ (8*(U cZ a.1))))))) (cond (decide (0<=(U cZ (56-(U cZ (8*(U cZ a.1))))))) (cond (decide ((0:Int)<=a.1/\a.1<(16:Int))) (cond (decide ((0:Int)<=(U W (8+a.1))/\(U W (8+a.1))<(16:Int))) (B (dV (U W (a.1+1),(qw 16 (qw 16 a.2 (cM a.1) (U cH (gh cZ b (U cZ (56-(U cZ (8*(U cZ a.1)))))))) (cM (U W (8+a.1))) (U cH (gh cZ d (U cZ (56-(U cZ (8*(U cZ a.1))))))))))) M) M) M) M)<|B (du a.2)
def Wi(a b:Int):X (E Int):=O (dq (agb a b) (0,eP)) λd=>B (d)
def apm{g i}(r)(h:Wi g i=B r):dX 31 [.c (d6 g),.c (d6 i)] (.agg (ek cH 16 r)):=dc<|eQ 14 h (cX [0,1,4,5,6] [4,5]) (λb=>[(6,cS b.1)]) (λb=>[(5,.box<|ek cH 16 b.2)]) 0 (cX [4,5] [4,5]) (λj=>[]) (λj=>[(5,.box<|ek cH 16 j)]) (λb a h=>c7 6 [8] [] h (λh=>eX h λm h=>cV 12<|let d:=(56-(U cZ<|8*(U cZ b.1)));o7 (op:=.shr) (g:=cZ) (b:=cZ) (A:=g) (j:=U cZ d) (f8 m) rfl dh J J<|eX h λo h=>cV 6<|o7 (op:=.shr) (g:=cZ) (b:=cZ) (A:=i) (j:=U cZ d) (f8 o) rfl dh J J<|eX h λk h=>cV 1<|yI 5 0 16 (j:=b.1) k J J<|Q_ (g:=cH) (i:=5) 0 16 (j:=b.1) (v:=U cH<|gh cZ g<|U cZ d) b.2 (pre:=[]) (post:=[]) k J J J<|eX h λl h=>yI 5 0 16 (j:=U W<|8+b.1) l J J<|Q_ (g:=cH) (i:=5) 0 16 (j:=U W<|8+b.1) (v:=U cH<|gh cZ i<|U cZ d) (qw 16 b.2 (cM b.1)<|U cH<|gh cZ g<|U cZ d) (pre:=[]) (post:=[]) l J J J<|ey 7 h) λh=>eo 2 h) λj h=>cJ 7 h
def tG(a:Int):X (E Int):=O (Wi 2306139568115548160 (U cZ (U W (a+1)))) λb=>B (b)
def BX{a}(r)(h:tG a=B r):dX 15 [cS a] (.agg (ek cH 16 r)):=dc<|db 9 h apm λb h=>cJ 3 h
def Wj(b:E Int)(a:Int):X Int:=cond (decide ((0:Int)<=(hf W a 8)/\(hf W a 8)<(16:Int))) (cond (decide (0<=(U cZ (7-(U cZ (hc a 8)))))) (B (f2 cH (gh cH (me b (cM (hf W a 8)) 0) (U cZ (7-(U cZ (hc a 8))))) 1)) M) M
def apn{b a}(r)(h:Wj b a=B r):dX 71 [.agg (ek cH 16 b),cS a] ((qR r)):=dc<|eX h λd h=>cV 9<|yI 2 0 16 (j:=hf W a 8) d J J<|Lw cH 0 16 (j:=hf W a 8) b d J J<|eX h λg h=>cV 4<|o7 (op:=.shr) (g:=cH) (b:=cZ) (A:=(me b (cM<|hf W a 8) 0)) (j:=U cZ<|7-(U cZ<|hc a 8)) (f8 g) rfl dh J J<|cJ 4 h
def aga(b:Int)(d:E Int)(a:Int×E Int):X ((Int×E Int)⊕((E Int))):=cond (decide (a.1<(if 128<if b<0 then 0 else b then 128 else if b<0 then 0 else b))) (cond (decide ((0:Int)<=(hf W a.1 8)/\(hf W a.1 8)<(16:Int))) (O (Wj d a.1) λg=>cond (decide (0<=(U cZ (7-(U cZ (hc a.1 8)))))) (cond (decide ((0:Int)<=(hf W a.1 8)/\(hf W a.1 8)<(16:Int))) (B (dV (U W (a.1+1),(qw 16 a.2 (cM (hf W a.1 8)) (jD cH (me a.2 (cM (hf W a.1 8)) 0) (ji cH g (U cZ (7-(U cZ (hc a.1 8)))))))))) M) M) M)<|B (du a.2)
def PA(b:E Int)(a:Int):X eW:=O (dq (aga a b) (0,eP)) λd=>B ((eW.mk d (if 128<if a<0 then 0 else a then 128 else if a<0 then 0 else a)))
def ac3{j b}(r)(h:PA j b=B r):dX 40 [.agg (ek cH 16 j),cS b] ((dP eW.cs r)):=dc<|eQ 25 h (cX [1,2,4,5,6] [2,4,5]) (λd=>[(6,cS d.1)]) (λd=>[(5,.box<|eW.cs<|eW.mk d.2 (if 128<if b<0 then 0 else b then 128 else if b<0 then 0 else b))]) 0 (cX [4,5] [4,5]) (λg=>[]) (λg=>[(5,.box<|eW.cs<|eW.mk g (if 128<if b<0 then 0 else b then 128 else if b<0 then 0 else b))]) (λd a h=>c7 7 [14] [] h (λh=>dK 3 3<|eX h λk h=>Fd 5 0 16 (j:=hf W d.1 8) k J J<|QX cH 0 16 (j:=hf W d.1 8) d.2 k J J<|d0 2 h apn λm h=>eX h λo h=>fa 4<|let i:=(7-(U cZ<|hc d.1 8));AW (op:=.shl) (g:=cH) (b:=cZ) (A:=m) (j:=U cZ i) (f8 o) rfl dh J J<|eX h λl h=>fa 2<|Fd 5 0 16 (j:=hf W d.1 8) l J J<|X1 (g:=cH) (i:=5) 0 16 (j:=hf W d.1 8) (v:=jD cH (me d.2 (cM<|hf W d.1 8) 0)<|ji cH m<|U cZ i) d.2 (pre:=[]) (post:=[c5 (if 128<if b<0 then 0 else b then 128 else if b<0 then 0 else b)]) l J J J<|dG 0 6<|ey 0 h) λh=>eo 2 h) λg h=>cJ 7 h
def KZ(a:Int):X ix:=O (EB a) λb=>O (Pc 1) λd=>O (Pc 2) λg=>O (tG a) λi=>O (tG a) λj=>O (PA j 128) λk=>O (tG a) λl=>O (PA l 64) λm=>B ((ix.mk b d g 1 ([i]:E (E Int)) ([(gl.mk k (eW.mk eP 0))]:E gl) ([(gj.mk 0 m T 1099511627776)]:E gj)))
abbrev qK:=eW.mk eP 0
abbrev Zc:E (Nat×Nat):=[(34,900036),(35,900037),(36,900038)]
def aov{a}(r)(h:KZ a=B r):ei 24 [cS a] [] (.agg (eT Zc (ix.cs r))) [(oU,cW 49 16 r.m1),(oV,cW 134 34 r.gu),(ob,cW 136 20 r.m0)]:=dc<|db 7 h adm λi h=>db 0 h acy λj h=>db 0 h acy λk h=>db 1 h BX λb h=>i1 0 10 49 16 (ek cH 16) [] ([b]:E (E Int))<|db 7 h BX λl h=>db 0 h ac3 λd h=>i1 1 16 134 34 gl.cs [] ([(gl.mk d qK)]:E gl)<|db 6 h BX λm h=>db 0 h ac3 λg h=>i1 1 22 136 20 gj.cs [] ([(gj.mk 0 g T 1099511627776)]:E gj)<|dj 8 (eE [2] [(10,oU),(16,oV),(22,ob),(2,2)])<|cJ 1 h
def Qo(b:Int)(a:(E ix)×Int):X ((E ix×Int)⊕((E ix))):=cond (decide (a.2<b)) (O (KZ a.2) λg=>O (ej 120 a.1 (cQ.cL .c_ ([g]:E ix))) λd=>B (dV (d,U W (a.2+1))))<|B (du a.1)
def AB(a:Int):X (E ix):=O (dq (Qo a) (([]:E ix),0)) λb=>B (b)
abbrev Ri:=cX [3] [600000]
def acg{g}(r)(h:AB g=B r):ei 8 [cS g] [] (.c (d7 37 gv ix.cs r)) [(c9,cW 89 37 r)]:=dc<|f9 14 3 c8 89 37<|eQ 0 h (cX [0,3,4] [c8]) (λb=>[(3,.c<|d7 37 e8 ix.cs b.1),(4,cS b.2)]) (λb=>[(c8,cW 89 37 b.1)]) 0 Ri (λd=>[(3,.c<|d7 37 e8 ix.cs d)]) (λd=>[(c8,cW 89 37 d)]) (λb a h=>c7 7 [7] [] h (λh=>dN 6 [] [(12,oU),(eK,oV),(e8,ob)] M h aov λj h=>jL 0 13 89 37 ix.cs (l0 34 [17,35,21]) 0 c8 h λi h=>ey 8 h) λh=>eo 2 h) λd h=>dj 6 (eE [2] [(c8,c9)])<|cJ 1 h
def C2(d:iD)(a:Int):X (Bool×Int):=O (pC d a) λb=>B (((b.1==(U W (a-1))),b.2))
def acA{a b}(r)(h:C2 a b=B r):ei 28 [eO df,cS b] [(df,.box (iD.cs a))] ((e4 r.1)) [(df,.box ((iD.cs ({a with at_:=r.2}))))]:=dc<|dN 8 [] [] (B (df,0)) h rU λd h=>cJ 6 h
def EA(b:(E (E Int))×Int×Int)(a:(E (E Int))×Int):X ((E (E Int)×Int×Int)⊕(E (E Int)×Int)):=B (dV (a.1,U W (b.2.1+1),a.2))
def WN(b:(E (E Int))×Int×Int)(k:Int×Int)(g:iD)(a:(E (E Int))×Int×Int):X ((E (E Int)×Int×Int)⊕(E (E Int)×Int)):=cond (decide (a.2.1<b.2.1)) (cond (a.2.1==k.1) (O (ej 16 a.1 (cQ.cL .c_ ([[a.2.1,b.2.1]]:E (E Int)))) λi=>(EA a) (i,a.2.2))<|O (C2 ({g with at_:=a.2.2}) 4) λd=>cond d.1 (O (ej 16 a.1 (cQ.cL .c_ ([[a.2.1,b.2.1]]:E (E Int)))) λj=>(EA a) (j,d.2))<|(EA a) (a.1,d.2))<|B (du (a.1,a.2.2))
def WM(i:Int)(b:iD)(a:(E (E Int))×Int×Int):X ((E (E Int)×Int×Int)⊕(E (E Int)×Int)):=cond (decide (a.2.1<i)) (O (pC ({b with at_:=a.2.2}) a.2.1) λg=>O (dq (WN a g b) (a.1,0,g.2)) λd=>B (dV (d.1,U W (a.2.1+1),d.2)))<|B (du (a.1,a.2.2))
def Ez(a:iD)(d:Int):X (E (E Int)×Int):=O (dq (WM d a) (([]:E (E Int)),1,a.at_)) λb=>B ((b.1,b.2))
abbrev YU:=cX [0,1,5,6] [1000000,600000]
abbrev Y8:=cX [0,1,5,6,7,8] [1000000,600000]
def aow{g l}(r)(h:Ez g l=B r):ei 12 [eO df,cS l] [(df,.box (iD.cs g))] (.c (d7 2 gv (ek W 2) r.1)) [(df,.box ((iD.cs ({g with at_:=r.2})))),(c9,cW 91 2 r.1)]:=dc<|f9 14 5 c8 91 2<|eQ 0 h YU (λd=>[(5,.c<|d7 2 e8 (ek W 2) d.1),(6,cS d.2.1)]) (λd=>[(df,.box<|iD.cs<|{g with at_:=d.2.2}),(c8,cW 91 2 d.1)]) 0 (cX [5] [df,c8]) (λi=>[(5,.c<|d7 2 e8 (ek W 2) i.1)]) (λi=>[(df,.box<|iD.cs<|{g with at_:=i.2}),(c8,cW 91 2 i.1)]) (λd a h=>c7 7 [11] [] h (λh=>dN 7 [] [] (B (df,0)) h rU λt h=>eQ 7 h Y8 (λb=>[(5,.c<|d7 2 e8 (ek W 2) b.1),(8,cS b.2.1)]) (λb=>[(df,.box<|iD.cs<|{g with at_:=b.2.2}),(c8,cW 91 2 b.1)]) 2 YU (λj=>[(5,.c<|d7 2 e8 (ek W 2) j.1)]) (λj=>[(df,.box<|iD.cs<|{g with at_:=j.2}),(c8,cW 91 2 j.1)]) (λb a h=>c7 7 [19] [] h (λh=>fR 1 Y8 (λk=>[(5,.c<|d7 2 e8 (ek W 2) k.1)]) (λk=>[(df,.box<|iD.cs<|{g with at_:=k.2}),(c8,cW 91 2 k.1)]) (EA b) a (λk h=>ey 5 h)<|gp 7 [24,25] [] h (λh=>dt 4<|i1 5 33 91 2 (ek W 2) [] ([[b.2.1,d.2.1]]:E (E Int))<|dC h λp m h=>Q0 (i:=c8) (e:=91) (sz:=2) (Q:=F b.1) (ek W 2) gs (j:=b.1) (k:=([[b.2.1,d.2.1]]:E (E Int))) (c:=.c_) m J J<|dQ 3 h) λh=>dN 1 [] [] (B (df,0)) h acA λs h=>c7 2 [27,28] [] h (λh=>i1 5 33 91 2 (ek W 2) [] ([[b.2.1,d.2.1]]:E (E Int))<|dC h λq o h=>Q0 (i:=c8) (e:=91) (sz:=2) (Q:=F b.1) (ek W 2) gs (j:=b.1) (k:=([[b.2.1,d.2.1]]:E (E Int))) (c:=.c_) o J J<|dQ 3 h) λh=>dQ 2 h) λh=>eo 2 h) λj h=>ey 7 h) λh=>eo 2 h) λi h=>dj 6 (eE [4] [(c8,c9),(df,df)])<|cJ 1 h
def uG(a:E Int):X Bool:=B (((a.getD 0 0)==255))
def GP{a}(r)(h:uG a=B r):dX 57 [.agg (ek cH 16 a)] ((e4 r)):=dc<|cJ 13 h
def Wc(a:gl)(b:ix):X c0:=B ((c0.mk a.ed a.dU b.h1))
def ao9{a b}(r)(h:Wc a b=B r):dX 59 [dP gl.cs a,.c (.e1 (ix.cs b))] ((dP c0.cs r)):=dc<|cJ 17 h
def afV(a:Int)(d:E Int)(b:Int×E Int):X ((Int×E Int)⊕((E Int))):=cond (decide (b.1<16)) (cond (decide ((0:Int)<=b.1/\b.1<(16:Int))) (cond (decide (0<=(if 8<if U W ((if 128<if a<0 then 0 else a then 128 else if a<0 then 0 else a)-(U W (8*b.1)))<0 then 0 else U W ((if 128<if a<0 then 0 else a then 128 else if a<0 then 0 else a)-(U W (8*b.1)))then 8 else if U W ((if 128<if a<0 then 0 else a then 128 else if a<0 then 0 else a)-(U W (8*b.1)))<0 then 0 else U W ((if 128<if a<0 then 0 else a then 128 else if a<0 then 0 else a)-(U W (8*b.1)))))) (cond (decide ((0:Int)<=b.1/\b.1<(16:Int))) (B (dV (U W (b.1+1),(qw 16 b.2 (cM b.1) (vC cH (me d (cM b.1) 0) (gh cH 255 (if 8<if U W ((if 128<if a<0 then 0 else a then 128 else if a<0 then 0 else a)-(U W (8*b.1)))<0 then 0 else U W ((if 128<if a<0 then 0 else a then 128 else if a<0 then 0 else a)-(U W (8*b.1)))then 8 else if U W ((if 128<if a<0 then 0 else a then 128 else if a<0 then 0 else a)-(U W (8*b.1)))<0 then 0 else U W ((if 128<if a<0 then 0 else a then 128 else if a<0 then 0 else a)-(U W (8*b.1)))))))))) M) M) M)<|B (du b.2)
def rm(b:E Int)(a:Int):X eW:=O (dq (afV a b) (0,eP)) λd=>B ((eW.mk d (if 128<if a<0 then 0 else a then 128 else if a<0 then 0 else a)))
def GQ{i b}(r)(h:rm i b=B r):dX 211 [.agg (ek cH 16 i),cS b] ((dP eW.cs r)):=dc<|eQ 20 h (cX [2,4,5,12] [2,4,5]) (λd=>[(12,cS d.1)]) (λd=>[(5,.box<|eW.cs<|eW.mk d.2 (if 128<if b<0 then 0 else b then 128 else if b<0 then 0 else b))]) 0 (cX [4,5] [4,5]) (λj=>[]) (λj=>[(5,.box<|eW.cs<|eW.mk j (if 128<if b<0 then 0 else b then 128 else if b<0 then 0 else b))]) (λd a h=>c7 5 [13] [] h (λh=>dK 19 2<|eX h λk h=>Fd 2 0 16 (j:=d.1) k J J<|QX cH 0 16 (j:=d.1) i k J J<|eX h λm h=>fa 1<|let g:=((if 128<if b<0 then 0 else b then 128 else if b<0 then 0 else b)-(U W<|8*d.1));AW (op:=.shr) (g:=cH) (b:=W) (A:=255) (j:=if 8<if U W g<0 then 0 else U W g then 8 else if U W g<0 then 0 else U W g) (f8 m) rfl dh J J<|eX h λl h=>fa 2<|Fd 5 0 16 (j:=d.1) l J J<|X1 (g:=cH) (i:=5) 0 16 (j:=d.1) (v:=vC cH (me i (cM d.1) 0)<|gh cH 255 (if 8<if U W g<0 then 0 else U W g then 8 else if U W g<0 then 0 else U W g)) d.2 (pre:=[]) (post:=[c5 (if 128<if b<0 then 0 else b then 128 else if b<0 then 0 else b)]) l J J J<|dG 0 5<|ey 0 h) λh=>eo 2 h) λj h=>cJ 7 h
def sl(a:eW):X Bool:=cond (decide (a.fu>=0)) (cond (decide (a.fu<=128)) (O (rm a.en a.fu) λb=>B ((eW.fV b a))) M) M
def zj{a}(r)(h:sl a=B r):dX 107 [dP eW.cs a] ((e4 r)):=dc<|dK 6 3<|eX h λa1 h=>fc 0 a1<|eX h λaJ h=>fc 4 aJ<|d0 4 h GQ λb h=>dG 4 1<|cJ 0 h
def ne(a:c0):X Bool:=O (sl a.ed) λb=>cond b (O (sl a.dU) λd=>cond d (B ((a.dW !=0)))<|B (Z))<|B (Z)
def pm{a}(r)(h:ne a=B r):dX 60 [dP c0.cs a] ((e4 r)):=dc<|db 9 h zj λi h=>eN h (λaJ G=>by subst aJ;exact db 3 G zj λj G=>eN G (λx b=>by subst x;exact cJ 9 b) λx d=>by subst x;exact cJ 9 d) λaJ g=>by subst aJ;exact cJ 13 g
def zV(a:Int):X Bool:=cond (decide (a>=0)) (B ((decide (a<=1099511627776)))) M
def Tf{a}(r)(h:zV a=B r):dX 111 [cS a] ((e4 r)):=dc<|hW 9 [4,5] [] h λh=>cJ 6 h
def afX(d:E gj)(b:Int×Int):X ((Int×Int)⊕Unit):=cond (decide (b.2<(F d:Int))) (O (di d b.2) λa=>cond (decide (a.oa<=b.1)) M<|cond (decide (a.oa>=16)) M<|O (sl a.o3) λi=>cond i (O (zV a.ge) λg=>cond g (B (dV (a.oa,U W (b.2+1)))) M) M)<|B (du ())
def zU(a:E gj):X Bool:=O (dq (afX a) ((-1),0)) λb=>B (T)
abbrev iR:=cX [] []
abbrev Rn:=cX [3,6,7,8] []
def Nd{d}(r)(h:zU d=B r):dX 62 [dJ 20 gj.cs d] ((e4 r)):=dc<|eQ 16 h Rn (λb=>[(3,cS b.1),(8,cS b.2)]) (λb=>[]) 0 iR (λg=>[]) (λg=>[]) (λb a h=>c7 5 [9] [] h (λh=>e5 5 gj.cs h λj h=>gF 12 [15,16] [] h λh=>eI 5 [19,20] [] h λh=>db 6 h zj λk h=>eX h λi G=>by subst i;exact hu 4 [] 3 G Tf λG=>ey 11 G) λh=>eo 2 h) λg h=>cJ 6 h
def af5(b:ix)(a:Int):X (Int⊕Unit):=cond (decide (a<(F b.m1:Int))) (O (di b.m1 a) λd=>O (uG d) λg=>cond g M<|cond (decide (a>0)) M<|B (dV (U W (a+1))))<|B (du ())
def af6(b:ix)(a:Int):X (Int⊕Unit):=cond (decide (a<(F b.gu:Int))) (O (di b.gu a) λd=>O (Wc d b) λg=>O (ne g) λi=>cond i (cond (decide (a>0)) M<|B (dV (U W (a+1)))) M)<|B (du ())
def Ab(a:ix):X Bool:=cond (a.h1==0) M<|cond (decide ((F a.m1:Int)<1)) M<|cond (decide ((F a.m1:Int)>8)) M<|cond (decide ((F a.gu:Int)>8)) M<|O (dq (af5 a) 0) λg=>O (dq (af6 a) 0) λd=>O (zU a.m0) λb=>B (b)
def Tk{g}(r)(h:Ab g=B r):dX 36 [dP ix.cs g] ((e4 r)):=dc<|lQ 2<|gF 9 [10,11] [] h λh=>gF 6 [15,16,17] [] h λh=>gF 6 [21,22,23] [] h λh=>eI 6 [27,28] [] h λh=>eQ 10 h (cX [1,30,31,32] []) (λd=>[(32,cS d)]) (λd=>[]) 0 (cX [1] []) (λj=>[]) (λj=>[]) (λd a h=>c7 5 [33] [] h (λh=>e5 6 (ek cH 16) h λp h=>dK 6 1<|d0 0 h GP λq h=>lg h λk G=>by subst k;exact lg G λl G=>fc 3 l<|dG 11 0<|dt 0<|ey 6 G) λh=>eo 2 h) λj h=>k0 3<|eQ 11 h (cX [1,5,57,58,59] []) (λb=>[(59,cS b)]) (λb=>[]) 2 (cX [1] []) (λi=>[]) (λi=>[]) (λb a h=>c7 5 [60] [] h (λh=>e5 6 gl.cs h λo h=>db 10 h ao9 λs h=>hu 0 [] 2 h pm λh=>dK 2 2<|lg h λm h=>fc 0 m<|dG 14 0<|dt 0<|ey 6 h) λh=>eo 2 h) λi h=>db 5 h Nd λt h=>cJ 3 h
def I2(a:d3)(b:Int):X Bool:=B ((a.gS.h1==b))
def ao5{a b}(r)(h:I2 a b=B r):dX 64 [dP d3.cs a,.c (.e1 ([d6 b]))] ((e4 r)):=dc<|cJ 15 h
def ym(b:E d3)(d a:Int):X (Int⊕(Unit⊕Int)):=cond (decide (a<(F b:Int))) (O (di b a) λg=>O (I2 g d) λi=>cond i (B (du (du a)))<|B (dV (U W (a+1))))<|B (du (dV ()))
def Qf(a:E d3)(b:Int):X Int:=(dq (ym a b) 0).bind (ku (λd=>B ((-1))) (λlZ=>B lZ))
abbrev tR:=cX [0,1,7,8] []
def ap0{d g}(r)(h:Qf d g=B r):dX 63 [dJ 78 d3.cs d,.c (.gf 64 [.e1 [d6 g]])] ((cS r)):=dc<|lY 12 h tR (λb=>[(8,cS b)]) (λb=>[]) 0 iR (λi=>[]) (λi=>[]) (λm j b a h k=>c7 5 [9] [] h (λh=>e5 13 d3.cs h λl h=>ha 1 [] 1 h ao5 (λh=>iB 8 h k j λh=>cJ 2 h) λh=>ey 6 h) λh=>eo 2 h) λi h=>cJ 6 h
def Dd(a:E d3)(b:Int):X Int:=O (Qf a b) λd=>B (d)
def acM{a b}(r)(h:Dd a b=B r):dX 37 [dJ 78 d3.cs a,.c (d6 b)] ((cS r)):=dc<|lQ 2<|k0 5<|db 0 h ap0 λd h=>cJ 3 h
def VZ(a:Int):X Bool:=cond (decide (a>=0)) (B ((decide (a<=1073741824)))) M
def aoV{a}(r)(h:VZ a=B r):dX 112 [cS a] ((e4 r)):=dc<|hW 9 [4,5] [] h λh=>cJ 6 h
def VY:X (E Int):=B ([0,0,0,0,0,0,0,0])
def aoU(r)(h:VY=B r):dX 113 [] (.agg (ek cH 8 r)):=dc<|cJ 10 h
def C3(a:kS):X Bool:=O (VZ a.vi) λb=>cond b (cond (decide ((F a.gA:Int)>64)) M<|cond (a.vi !=0) M<|cond ((F a.gA:Int)==0) (O VY λd=>B ((nn 8 a.eA d))) M) M
def acB{a}(r)(h:C3 a=B r):dX 65 [dP kS.cs a] ((e4 r)):=dc<|db 10 h aoV λb h=>eX h λaJ G=>by subst aJ;exact eI 8 [11,12] [] G λG=>dK 2 3<|lg G λx G=>fc 0 x<|eX G λS G=>fc 4 S<|d0 2 G aoU λd G=>dG 4 1<|cJ 0 G
def sp(a:Int):X Bool:=cond (decide (a>=0)) (B ((decide (a<=1099511627776)))) M
def xd{a}(r)(h:sp a=B r):dX 66 [cS a] ((e4 r)):=dc<|hW 9 [4,5] [] h λh=>cJ 6 h
def afY(a:E h9)(b:Unit):X (Unit⊕Unit):=cond (decide (1<(F a:Int))) M<|B (du ())
def O3(a:E h9):X Bool:=O (dq (afY a) ()) λb=>B (T)
def aoM{b}(r)(h:O3 b=B r):dX 124 [dJ 17 h9.cs b,.c (.cY (.func (.func 125) #[] #[]))] ((e4 r)):=dc<|eQ 10 h (cX [0,1,5] []) (λg=>[]) (λg=>[]) 0 iR (λd=>[]) (λd=>[]) (λg a h=>eI 8 [9] [] h λh=>eo 2 h) λd h=>cJ 6 h
def OX(a:Int):X Bool:=B ((a !=a))
def acn{a}(r)(h:OX a=B r):dX 221 [cS a] ((e4 r)):=dc<|cJ 12 h
def zS(a b:Int):X Int:=O (OX a) λd=>O (OX b) λg=>cond d M<|cond g M<|cond (decide (a<b)) M<|cond (decide (a>b)) M<|B (0)
def GR{a d}(r)(h:zS a d=B r):dX 109 [cS a,cS d] ((cS r)):=dc<|db 7 h acn λg h=>db 5 h acn λi h=>lg h λak G=>by subst ak;exact dt 7<|lg G λx b=>W1
def OW(a:Int):X Bool:=B ((a !=a))
def acm{a}(r)(h:OW a=B r):dX 396 [kX a] ((e4 r)):=dc<|cJ 12 h
def VV(a b:Int):X Int:=O (OW a) λd=>O (OW b) λg=>cond d M<|cond g M<|cond (decide (a<b)) M<|cond (decide (a>b)) M<|B (0)
def aoE{a d}(r)(h:VV a d=B r):dX 325 [kX a,kX d] ((cS r)):=dc<|db 7 h acm λg h=>db 5 h acm λi h=>lg h λak G=>by subst ak;exact dt 7<|lg G λx b=>W1
def OV(a:Int):X Bool:=B ((a !=a))
def acl{a}(r)(h:OV a=B r):dX 222 [.c (d6 a)] ((e4 r)):=dc<|cJ 12 h
def sn(a b:Int):X Int:=O (OV a) λd=>O (OV b) λg=>cond d M<|cond g M<|cond (decide (a<b)) (B ((-1)))<|cond (decide (a>b)) (B (1))<|B (0)
def Nc{b d}(r)(h:sn b d=B r):dX 110 [.c (d6 b),.c (d6 d)] ((cS r)):=dc<|db 7 h acl λg h=>db 5 h acl λi h=>lg h λak G=>by subst ak;exact dt 7<|lg G λx a=>by subst x;exact dt 6<|c7 8 [16] [] a (λa=>cJ 6 a) λa=>c7 8 [19] [] a (λa=>cJ 6 a) λa=>cJ 6 a
def afW(b:E Int)(a:Int):X (Int⊕(Unit⊕Int)):=cond (decide (a<(F b:Int))) (O (di b a) λd=>cond (d !=0) (B (du (du d)))<|B (dV (U W (a+1))))<|B (du (dV ()))
def wc(a:E Int):X Int:=(dq (afW a) 0).bind (ku (λd=>B (0)) (λb=>B b))
def GS{d}(r)(h:wc d=B r):dX 108 [dJ 1 (c4 W) d] ((cS r)):=dc<|lY 16 h Rn (λb=>[(8,cS b)]) (λb=>[]) 0 (cX [3] []) (λg=>[]) (λg=>[]) (λl i b a h j=>c7 5 [9] [] h (λh=>e5 5 (c4 W) h λk h=>c7 9 [14] [] h (λh=>iB 8 h j i λh=>cJ 2 h) λh=>ey 6 h) λh=>eo 2 h) λg h=>cJ 7 h
def wb(a b:fj):X Int:=O (zS a.Mode b.Mode) λd=>O (VV a.tN b.tN) λg=>O (sn a.h1 b.h1) λi=>O (wc ([d,g,i]:E Int)) λj=>B (j)
def aoy{a b}(r)(h:wb a b=B r):dX 228 [dP fj.cs a,dP fj.cs b] ((cS r)):=dc<|dK 7 4<|d0 0 h GR λd h=>d0 4 h aoE λg h=>fa 4<|i7 J<|db 0 h Nc λi h=>i1 0 20 3 1 (c4 W) [] ([d,g,i]:E Int)<|nF 0 [[2]] h GS λj h=>cJ 3 h
def OY(a:Int):X Bool:=B ((a !=a))
def aco{a}(r)(h:OY a=B r):dX 324 [qR a] ((e4 r)):=dc<|cJ 12 h
def OU(a b:Int):X Int:=O (OY a) λd=>O (OY b) λg=>cond d M<|cond g M<|cond (decide (a<b)) M<|cond (decide (a>b)) M<|B (0)
def aoF{a d}(r)(h:OU a d=B r):dX 227 [qR a,qR d] ((cS r)):=dc<|db 7 h aco λg h=>db 5 h aco λi h=>lg h λak G=>by subst ak;exact dt 7<|lg G λx b=>W1
def CR(a b:e_):X Int:=O (wb a.dU b.dU) λd=>O (OU a.hJ b.hJ) λg=>O (wc ([d,g]:E Int)) λi=>B (i)
def acs{a b}(r)(h:CR a b=B r):dX 127 [dP e_.cs a,dP e_.cs b] ((cS r)):=dc<|dK 7 4<|d0 0 h aoy λd h=>fa 4<|i7 J<|db 0 h aoF λg h=>i1 0 15 3 1 (c4 W) [] ([d,g]:E Int)<|nF 0 [[2]] h GS λi h=>cJ 3 h
def O4(b:E e_)(a:Int):X (Int⊕Unit):=cond (decide (a<(F b:Int))) (O (di b (U W (a-1))) λd=>O (di b a) λg=>O (CR d g) λi=>cond (decide (i>=0)) M<|B (dV (U W (a+1))))<|B (du ())
def Io(a:E e_):X Bool:=O (dq (O4 a) 1) λb=>B (T)
def aoN{d}(r)(h:Io d=B r):dX 126 [dJ 6 e_.cs d,.c (.cY (.func (.func 127) #[] #[]))] ((e4 r)):=dc<|eQ 10 h (cX [0,1,5] []) (λb=>[(5,cS b)]) (λb=>[]) 0 iR (λg=>[]) (λg=>[]) (λb a h=>c7 8 [9] [] h (λh=>dK 4 4<|hE 0 e_.cs h λi h=>hE 3 e_.cs h λj h=>fa 1<|i7 J<|db 0 h acs λk h=>eI 2 [23] [] h λh=>ey 7 h) λh=>eo 2 h) λg h=>cJ 6 h
def tx(a:fj):X Bool:=cond (a.Mode==0) M<|cond (a.Mode==2) (B ((a.h1==0)))<|cond (a.Mode==3) (B ((a.tN==0))) M
def zi{a}(r)(h:tx a=B r):dX 229 [dP fj.cs a] ((e4 r)):=dc<|eI 17 [6,5] [] h λh=>c7 5 [11,10] [] h (λh=>cJ 10 h) λh=>hb 5 [16,15] [] h λh=>cJ 10 h
def zQ(a:fj):X Bool:=B ((fj.fV a (fj.mk 2 65535 0)))
def Te{a}(r)(h:zQ a=B r):dX 83 [dP fj.cs a] ((e4 r)):=dc<|cJ 13 h
def O_(a:eR)(b:Int)(d:Unit):X (Unit⊕(E Int×Bool)):=cond (decide (0<(F a.jj:Int))) (O (di a.jj 0) λaH=>cond (aH.K_==b) (B (du (aH.hJ,T))) M) M
def zZ(a:eR)(b:Int):X (E Int×Bool):=O (dq (O_ a b) ()) λd=>B d
def Th{b d}(r)(h:zZ b d=B r):dX 168 [dP eR.cs b,qR d] (.eu [(T,ek cH 16 r.1),(Z,[gR r.2])]):=dc<|dC h λm j i=>cV 15<|wO (O_ b d) (cX [1,4,9,10,11] [4]) (λ(g:Unit)=>[]) (λ(g:Unit)=>[]) () m .normal (λ(l:Empty)=>(l.elim:(E Int)×Bool)) iR (λ(_:Empty)=>[]) (λ(_:Empty)=>[]) j J J (λg a h k=>hb 5 [12] [] h λh=>e5 5 h9.cs h λo h=>hb 11 [18] [] h λh=>nv 10 h k i λh=>cJ 2 h)<|λl=>l.elim
def Iq(b:eR)(a:e_):X Bool:=O (tx a.dU) λd=>cond d (cond (a.dU.Mode==0) M<|O (zQ a.dU) λg=>cond g M<|O (zZ b a.hJ) λi=>cond i.2 (B (((f2 e9 a.kT 1)==1))) M) M
def aoO{a b}(r)(h:Iq a b=B r):dX 128 [dP eR.cs a,dP e_.cs b] ((e4 r)):=dc<|db 11 h zi λd h=>eX h λaJ G=>by subst aJ;exact gF 8 [15,16,17] [] G λG=>Bm 2 [] 2 G Te λG=>db 6 G Th λg G=>hW 11 [28,6,29,30] [] G λG=>cJ 8 G
def In(a:eR)(b:Int):X (Int⊕Unit):=cond (decide (b<(F a.d8:Int))) (O (di a.d8 b) λd=>O (Iq a d) λg=>cond g (B (dV (U W (b+1)))) M)<|B (du ())
def wg(a:eR):X Bool:=cond (decide ((F a.jj:Int)>4)) M<|O (O3 a.jj) λb=>cond b (cond (decide (a.eJ>a.h3)) M<|cond (decide ((F a.d8:Int)>16)) M<|O (Io a.d8) λd=>cond d (O (dq (In a) 0) λg=>B (T)) M) M
def GT{d}(r)(h:wg d=B r):dX 72 [dP eR.cs d] ((e4 r)):=dc<|gF 13 [8,9] [] h λh=>db 2 h aoM λj h=>eX h λak G=>by subst ak;exact eI 10 [20,21] [] G λG=>gF 9 [25,26] [] G λG=>hu 2 [] 3 G aoN λG=>eQ 10 G (cX [1,33,34,35] [1]) (λb=>[(35,cS b)]) (λb=>[]) 0 iR (λg=>[]) (λg=>[]) (λb a G=>c7 5 [36] [] G (λG=>e5 5 e_.cs G λi G=>hu 8 [] 2 G aoO λG=>ey 6 G) λG=>eo 2 G) λg G=>cJ 6 G
def O5(a:E h9):X (E h9):=O (ej 17 [] (cQ.cL .c_ a)) λb=>B (b)
abbrev Fq:=eE [2] [(4,900000)]
def anj{a}(r)(h:O5 a=B r):ei 223 [dJ 17 h9.cs a] [] (.c (d7 17 gv h9.cs r)) [(c9,cW 171 17 r)]:=dc<|dC h λd b h=>cV 7<|Fg 4 171 17 h9.cs gs (g:=a) .c_ b J J<|dj 2 Fq<|cJ 1 h
def O7(a:E e_):X (E e_):=O (ej 40 [] (cQ.cL .c_ a)) λb=>B (b)
def anl{a}(r)(h:O7 a=B r):ei 224 [dJ 6 e_.cs a] [] (.c (d7 6 gv e_.cs r)) [(c9,cW 246 6 r)]:=dc<|dC h λd b h=>cV 7<|Fg 4 246 6 e_.cs gs (g:=a) .c_ b J J<|dj 2 Fq<|cJ 1 h
def CS(a:eR):X eR:=O (O5 a.jj) λb=>O (O7 a.d8) λd=>B ({a with jj:=b,d8:=d})
abbrev Rp:E (Nat×Nat):=[(0,900002),(4,900006)]
abbrev YV:E (Nat×Nat):=[(5,900000),(9,900004),(2,2)]
def ab0{a}(r)(h:CS a=B r):ei 114 [dP eR.cs a] [] (.agg (eT Rp (eR.cs r))) [(c9,cW 171 17 r.jj),(j4,cW 246 6 r.d8)]:=dc<|dN 9 [] [(5,c9)] M h anj λb h=>dN 7 [] [(9,c9)] M h anl λd h=>dj 8 (eE [2] YV)<|cJ 1 h
def zY(d:eR)(b:Int):X (eR×Int):=O (wg d) λg=>cond g (cond (b==0) M<|O (CS d) λa=>B (({a with h3:=U e9 (a.h3+(if U e9 (4294967295-a.h3)<b then U e9 (4294967295-a.h3)else b))},0))) M
def abZ{a b}(r)(h:zY a b=B r):ei 67 [dP eR.cs a,qn b] [] (.eu [(T,(eT Rp (eR.cs r.1))),(Z,[c5 r.2])]) [(c9,cW 171 17 r.1.jj),(j4,cW 246 6 r.1.d8)]:=dc<|hu 10 [] 2 h GT λh=>eI 7 [12] [] h λh=>dN 4 [] [(15,c9),(c8,j4)] M h ab0 λd h=>dj 22 (eE [4,5] [(15,c9),(c8,j4),(4,4)])<|cJ 1 h
def qa(a:Int):X Bool:=cond (decide (a>=0)) (B ((decide (a<=1099511627776)))) M
def s3{a}(r)(h:qa a=B r):dX 115 [cS a] ((e4 r)):=dc<|hW 9 [4,5] [] h λh=>cJ 6 h
def sq(a:E gl):X (E gl):=O (ej 48 [] (cQ.cL .c_ a)) λb=>B (b)
def GN{g}(d)(i:sq g=B d):ei 116 [dJ 34 gl.cs g] [] (.c (d7 34 gv gl.cs d)) [(c9,cW 134 34 d)]:=let j:=134;let b:=34;let k:=gl.cs;qT
def V0(a:Int):X Int:=cond (decide (a>=4294967296)) M<|cond (decide (a>=65536)) M<|cond (decide (a>=256)) M<|O (NT ([0,1,2,2,3,3,3,3,4,4,4,4,4,4,4,4,5,5,5,5,5,5,5,5,5,5,5,5,5,5,5,5,6,6,6,6,6,6,6,6,6,6,6,6,6,6,6,6,6,6,6,6,6,6,6,6,6,6,6,6,6,6,6,6,7,7,7,7,7,7,7,7,7,7,7,7,7,7,7,7,7,7,7,7,7,7,7,7,7,7,7,7,7,7,7,7,7,7,7,7,7,7,7,7,7,7,7,7,7,7,7,7,7,7,7,7,7,7,7,7,7,7,7,7,7,7,7,7,8,8,8,8,8,8,8,8,8,8,8,8,8,8,8,8,8,8,8,8,8,8,8,8,8,8,8,8,8,8,8,8,8,8,8,8,8,8,8,8,8,8,8,8,8,8,8,8,8,8,8,8,8,8,8,8,8,8,8,8,8,8,8,8,8,8,8,8,8,8,8,8,8,8,8,8,8,8,8,8,8,8,8,8,8,8,8,8,8,8,8,8,8,8,8,8,8,8,8,8,8,8,8,8,8,8,8,8,8,8,8,8,8,8,8,8,8,8,8,8,8,8,8,8,8,8,8,8]:E UInt8) (U cH a)) λaH=>B (U W (0+(U W aH)))
def aoW{a}(r)(h:V0 a=B r):dX 323 [.c (d6 a)] ((cS r)):=dc<|eI 10 [4] [] h λh=>eI 7 [8] [] h λh=>eI 7 [14] [] h λh=>dC h λd b h=>cV 6<|aix ([0,1,2,2,3,3,3,3,4,4,4,4,4,4,4,4,5,5,5,5,5,5,5,5,5,5,5,5,5,5,5,5,6,6,6,6,6,6,6,6,6,6,6,6,6,6,6,6,6,6,6,6,6,6,6,6,6,6,6,6,6,6,6,6,7,7,7,7,7,7,7,7,7,7,7,7,7,7,7,7,7,7,7,7,7,7,7,7,7,7,7,7,7,7,7,7,7,7,7,7,7,7,7,7,7,7,7,7,7,7,7,7,7,7,7,7,7,7,7,7,7,7,7,7,7,7,7,7,8,8,8,8,8,8,8,8,8,8,8,8,8,8,8,8,8,8,8,8,8,8,8,8,8,8,8,8,8,8,8,8,8,8,8,8,8,8,8,8,8,8,8,8,8,8,8,8,8,8,8,8,8,8,8,8,8,8,8,8,8,8,8,8,8,8,8,8,8,8,8,8,8,8,8,8,8,8,8,8,8,8,8,8,8,8,8,8,8,8,8,8,8,8,8,8,8,8,8,8,8,8,8,8,8,8,8,8,8,8,8,8,8,8,8,8,8,8,8,8,8,8,8,8,8,8,8,8]:E UInt8) (U cH a) b J J<|cJ 5 h
def rn(a:Int):X Int:=O (V0 a) λb=>B (b)
def Ng{a}(r)(h:rn a=B r):dX 226 [.c (d6 a)] ((cS r)):=dc<|dt 5<|db 4 h aoW λb h=>cJ 3 h
def WH(a b:Int)(d:Unit):X (Unit⊕Unit):=cond (decide ((U W (a+1))<b)) M<|B (du ())
def Ql(d:E gl)(a b g:Int):X Unit:=O (dq (WH a b) ()) λi=>B (())
def ap8{b d g i}(r)(h:Ql b d g i=B r):dX 314 [dJ 34 gl.cs b,cS d,cS g,.c (.gf 118 [.e1 [d6 i]])] (.eu []):=dc<|eQ 7 h (cX [0,1,2,3,8] []) (λk=>[]) (λk=>[]) 0 iR (λj=>[]) (λj=>[]) (λk a h=>eI 7 [14] [] h λh=>eo 2 h) λj h=>cJ 1 h
def KR(b a:Int)(d:E gl)(g:Int)(j:Unit):X (Unit⊕Unit):=cond (decide ((U W (b-a))<=12)) (O (Ql d a b g) λi=>B (du ())) M
def Qm(a:E gl)(b d:Int)(j g:Int):X Unit:=O (dq (KR d b a g) ()) λi=>B i
def ap9{b d g j i}(r)(h:Qm b d g j i=B r):dX 225 [dJ 34 gl.cs b,cS d,cS g,cS j,.c (.gf 118 [.e1 [d6 i]])] (.eu []):=dc<|dC h λq o m=>cV 9<|wO (KR g d b i) (cX [0,1,2,3,4,10,11] []) (λ(k:Unit)=>[]) (λ(k:Unit)=>[]) () q .normal (λ(l:Empty)=>(l.elim:Unit)) iR (λ(_:Empty)=>[]) (λ(_:Empty)=>[]) o J J (λk a h p=>hb 14 [25] [] h λh=>db 6 h ap8 λs h=>nv 4 h p m λh=>cJ 1 h)<|λl=>l.elim
def KQ(a:E gl)(b:Int):X Unit:=O (rn (U cZ (F a:Int))) λd=>O (Qm a 0 (F a:Int) d b) λg=>B (())
def ap7{a b}(r)(h:KQ a b=B r):dX 117 [dJ 34 gl.cs a,.c (.gf 118 [.e1 [d6 b]])] (.eu []):=dc<|db 11 h Ng λd h=>db 1 h ap9 λg h=>cJ 1 h
def Qa(a:E gl):X (E gl):=cond (decide ((F a:Int)<2)) (B (a)) M
def apP{a}(r)(h:Qa a=B r):sj h6 120 [.c (d7 34 su gl.cs a)] 134 34 (F a) (.c (d7 34 su gl.cs r)) (F r):=ZW [] 61 0 Tryz.func120 rfl rfl J rfl λK=>hb 11 [8] [] h λh=>cV 7<|by cases h;exact wQ (b:=34) (d:=jv gl.cs a) J J J J
def wv(a b:Int):X Int:=B (if 1099511627776<U W (a+b)then 1099511627776 else U W (a+b))
def GZ{a b}(r)(h:wv a b=B r):dX 121 [cS a,cS b] ((cS r)):=dc<|cJ 13 h
def PE(b:E gl)(a:Int):X (Int⊕Unit):=cond (decide (a<(F b:Int))) (O (di b a) λd=>O (sl d.ed) λg=>cond g (O (sl d.dU) λi=>cond i (B (dV (U W (a+1)))) M) M)<|B (du ())
def DX(b a:Int)(d:E gl):X (fH×Int):=cond (b==0) M<|O (dq (PE d) 0) λm=>O (qa a) λj=>cond j (O (sq d) λg=>O (KQ g b) λl=>O (Qa g) λi=>cond (decide ((F i:Int)>8)) M<|O (wv a 16) λk=>B (((fH.mk b 0 a k 0 a i [] [] [] [] [] (h_.mk [] a)),0))) M
def an4{d g i}(r)(h:DX d g i=B r):ei 68 [.c (d6 d),cS g,dJ 34 gl.cs i] [] (.eu [(T,(eT [(6,rv)] (fH.cs r.1))),(Z,[c5 r.2])]) [(mj,cW 134 34 r.1.gu)]:=dc<|lQ 2<|eI 9 [12] [] h λh=>eQ 9 h (cX [1,2,3,6,14,15,16] [6]) (λb=>[(16,cS b)]) (λb=>[]) 0 (cX [1,2,3,6] [6]) (λj=>[]) (λj=>[]) (λb a h=>c7 5 [17] [] h (λh=>e5 5 gl.cs h λo h=>db 8 h zj λt h=>eX h λk G=>by subst k;exact hu 4 [] 3 G zj λG=>ey 6 G) λh=>eo 2 h) λj h=>hu 5 [] 2 h s3 λh=>dN 4 [] [(37,c9)] M h GN λp h=>k0 5<|nF 0 [[35]] h ap7 λq h=>dC h λm l h=>cV 4<|tP 37 [] (apP m l) J J J<|eI 9 [45] [] h λh=>dK 2 3<|d0 0 h GZ λs h=>dG 7 0<|dj 0 (eE [6,7] [(37,mj),(6,6)])<|cJ 1 h
def nN(a:E Int):X (E Int):=O (ej 1 [] (cQ.cL .c_ a)) λb=>B (b)
def s2{g}(d)(i:nN g=B d):ei 44 [dJ 1 (c4 cH) g] [] (.c (d7 1 gv (c4 cH) d)) [(c9,cW 5 1 d)]:=let j:=5;let b:=1;let k:=(c4 cH);qT
def WC(a:E (E Int)):X (E (E Int)):=O (ej 16 [] (cQ.cL .c_ a)) λb=>B (b)
def aon{g}(d)(i:WC g=B d):ei 122 [dJ 16 (ek cH 16) g] [] (.c (d7 16 gv (ek cH 16) d)) [(c9,cW 49 16 d)]:=let j:=49;let b:=16;let k:=(ek cH 16);qT
def WA(a:E gj):X (E gj):=O (ej 48 [] (cQ.cL .c_ a)) λb=>B (b)
def aol{g}(d)(i:WA g=B d):ei 123 [dJ 20 gj.cs g] [] (.c (d7 20 gv gj.cs d)) [(c9,cW 136 20 d)]:=let j:=136;let b:=20;let k:=gj.cs;qT
def Dn(a:ix):X ix:=O (WC a.m1) λb=>O (sq a.gu) λd=>O (WA a.m0) λg=>B ({a with m1:=b,gu:=d,m0:=g})
abbrev Zi:E (Nat×Nat):=[(5,900034),(9,900035),(13,900036),(2,2)]
def ab7{a}(r)(h:Dn a=B r):ei 69 [dP ix.cs a] [] (.agg (eT Zc (ix.cs r))) [(oU,cW 49 16 r.m1),(oV,cW 134 34 r.gu),(ob,cW 136 20 r.m0)]:=dc<|dN 9 [] [(5,c9)] M h aon λb h=>dN 7 [] [(9,c9)] M h GN λd h=>dN 7 [] [(13,c9)] M h aol λg h=>dj 8 (eE [2] Zi)<|cJ 1 h
def tz(a b:Int):X Int:=B (if 1099511627776<U W (a+b)then 1099511627776 else U W (a+b))
def GW{a b}(r)(h:tz a b=B r):dX 70 [cS a,cS b] ((cS r)):=dc<|cJ 13 h
def Aa(a:ix)(b k d:Int)(g:kS):X (d3×Int):=O (Ab a) λl=>cond l (O (C3 g) λq=>cond q (O (sp b) λs=>cond s (O (zY (eR.mk ([(h9.mk 1 a.hJ)]:E h9) d d k ([]:E e_)) 65536) λi=>cond (i.2 !=0) M<|O (DX a.h1 b a.gu) λj=>cond (j.2 !=0) M<|O (nN g.gA) λm=>O (Dn a) λo=>O (tz b 23) λp=>B (((d3.mk o i.1 0 T 0 d (U W (hc d 268435456)) p b j.1 [] [] [] ({g with gA:=m}) [] ([]:E iw)),0))) M) M) M
abbrev Zn:E (Nat×Nat):=[(37,900039),(41,900043),(55,900057),(67,920069)]
def ab5{a b d g i}(r)(h:Aa a b d g i=B r):ei 38 [dP ix.cs a,cS b,qn d,qn g,dP kS.cs i] [] (.eu [(T,(eT Zn (d3.cs r.1))),(Z,[c5 r.2])]) [(oc,cW 171 17 r.1.dl.jj),(oW,cW 246 6 r.1.dl.d8),(oX,cW 134 34 r.1.dW.gu),(920067,cW 5 1 r.1.j9.gA)]:=dc<|db 11 h Tk λl h=>eX h λaJ G=>by subst aJ;exact hu 3 [] 3 G acB λG=>hu 5 [] 2 G xd λG=>i1 6 31 171 17 h9.cs [] ([(h9.mk 1 a.hJ)]:E h9)<|dN 10 [[18,0,0,0,7]] [(38,c9),(c8,j4)] M G abZ λp G=>eI 12 [42] [] G λG=>dN 8 [] [(51,mj)] M G an4 λq G=>eI 13 [55] [] G λG=>dN 5 [] [(60,c9)] M G s2 λm G=>dK 4 1<|dC G λk j G=>pN [] ((qo [(l0 34 [17,35,21])] ab7) k j) J J<|d0 6 G GW λo G=>dG 6 0<|dj 0 (eE [10,11] [(38,oc),(c8,oW),(51,oX),(60,920067),(10,10)])<|cJ 1 G
def IT(b:E ix)(a:Int):X (Int⊕Unit):=cond (decide (a<(F b:Int))) (O (di b a) λd=>O (Ab d) λg=>cond g (B (dV (U W (a+1)))) M)<|B (du ())
def IU(b:E ix)(a:Int×E d3×E (E Bool)):X ((Int×E d3×E (E Bool))⊕(E d3×E (E Bool))):=cond (decide (a.1<(F b:Int))) (O (di b a.1) λd=>O (Dd a.2.1 d.h1) λl=>cond (decide (l>=0)) M<|O (Aa d 0 (U e9 (U W (a.1+1))) 0 (kS.mk 0 [] [0,0,0,0,0,0,0,0])) λg=>cond (g.2 !=0) M<|O (ej 600 a.2.1 (cQ.cL .c_ ([g.1]:E d3))) λi=>O (h4 1 (F b:Int) (F b:Int)) λk=>O (ej 24 a.2.2 (cQ.cL .c_ ([(fe k (Z:Bool))]:E (E Bool)))) λj=>B (dV (U W (a.1+1),i,j)))<|B (du (a.2.1,a.2.2))
def Dc(a:E ix):X (eZ×Int):=cond (decide ((F a:Int)<1)) M<|cond (decide ((F a:Int)>12)) M<|O (dq (IT a) 0) λg=>O (h4 1 (F a:Int) (F a:Int)) λd=>O (dq (IU a) (0,[],([]:E (E Bool)))) λb=>B (((eZ.mk 0 b.1 b.2 (fe d (Z:Bool)) [] [] ([]:E gK)),0))
abbrev yK:=l0 34 [17,35,21,18,0,0,0,7,0,0,0,0,0,0,0,0,0,0,0,0,0,35,9,39,40,41,41,38,0,11,6,4,0,2,0,0,0,0,0,0,0,0,4,35]
def anB{d}(r)(h:Dc d=B r):ei 23 [dJ 37 ix.cs d] [] (.eu [(T,(eT [(1,mD),(2,j4),(3,u1)] (eZ.cs r.1))),(Z,[c5 r.2])]) [(ng,cW 120 78 r.1.fB),(gv,cW 28 1 r.1.eg),(mD,cW 4 1 r.1.hU)]:=dc<|gF 17 [15,16] [] h λh=>eI 4 [18,19] [] h λh=>eQ 9 h (cX [0,2,4,21,22,23] [2]) (λi=>[(23,cS i)]) (λi=>[]) 0 (cX [0,2,4] [2]) (λj=>[]) (λj=>[]) (λi a h=>c7 5 [24] [] h (λh=>e5 5 ix.cs h λs h=>hu 7 [] 2 h Tk λh=>ey 6 h) λh=>eo 2 h) λj h=>dC h λk l h=>cV 4<|sI 33 4 1 i0 (Z:Bool) [] (d:=[gR Z]) (s:=(F d:Int)) (c:=(F d:Int)) l J J J<|cV 12<|ka 7 1 c8 120 78 J<|ka 7 2 eK 28 1 J<|eQ 0 h (cX [2,4,7,35,36,37] [2,7,c8,eK,33]) (λb=>[(37,cS b.1)]) (λb=>[(7,.box [c5 0,d7 78 e8 d3.cs b.2.1,d7 1 g_ (jK 1 i0) b.2.2,d7 1 35 i0<|fe k (Z:Bool),ia,ia,ia]),(c8,cW 120 78 b.2.1),(eK,cW 28 1 b.2.2)]) 2 (cX [2,7] [2,7,33,c8,eK]) (λg=>[]) (λg=>[(7,.box [c5 0,d7 78 e8 d3.cs g.1,d7 1 g_ (jK 1 i0) g.2,d7 1 35 i0<|fe k (Z:Bool),ia,ia,ia]),(c8,cW 120 78 g.1),(eK,cW 28 1 g.2)]) (λb a h=>c7 5 [38] [] h (λh=>e5 6 ix.cs h λq h=>nF 12 [[79]] h acM λu h=>eI 2 [47] [] h λh=>dN 8 [[],[],[],[],[0,2]] [(55,oc),(e8,oW),(g_,oX),(iW,920067)] M h ab5 λx h=>eI 13 [59] [] h λh=>jL 6 65 120 78 d3.cs yK 0 c8 h λo h=>dK 3 3<|dC h λt m h=>XW 71 4 1 i0 (Z:Bool) [] (d:=[gR Z]) (s:=(F d:Int)) (c:=(F d:Int)) m J J J<|pR 72 28 1 (jK 1 i0) [2] 0 eK h λp h=>dG 2 5<|ey 0 h) λh=>eo 2 h) λg h=>dj 7 (eE [2,3] [(c8,ng),(eK,gv),(33,mD),(2,2)])<|cJ 1 h
def tB(b:Int)(a:gl):X c0:=B ((c0.mk a.ed a.dU b))
def GY{a b}(r)(h:tB a b=B r):dX 119 [.c (d6 a),dP gl.cs b] ((dP c0.cs r)):=dc<|cJ 16 h
def agd(b:E gl)(d a:Int):X (Int⊕Unit):=cond (decide (a<(F b:Int))) (O (di b a) λg=>O (tB d g) λi=>O (ne i) λj=>cond j (cond (decide (a>0)) M<|B (dV (U W (a+1)))) M)<|B (du ())
def Kc(b:Int)(a:E gl):X Bool:=cond (decide ((F a:Int)>8)) M<|O (dq (agd a b) 0) λd=>B (T)
def apC{d g}(r)(h:Kc d g=B r):dX 129 [.c (d6 d),dJ 34 gl.cs g] ((e4 r)):=dc<|eI 11 [10] [] h λh=>eQ 9 h (cX [0,1,11,12,13] []) (λb=>[(13,cS b)]) (λb=>[]) 0 iR (λi=>[]) (λi=>[]) (λb a h=>c7 5 [14] [] h (λh=>e5 6 gl.cs h λl h=>db 9 h GY λm h=>dK 4 1<|d0 0 h pm λo h=>eX h λk G=>by subst k;exact lg G λj G=>fc 4 j<|dG 12 0<|dt 0<|ey 6 G) λh=>eo 2 h) λi h=>cJ 6 h
def DI(a:gE):X Bool:=cond (gE.fV a (gE.mk Z 0 0 0 0)) (B (T))<|cond a.nf (cond (decide (a.iF>=1)) (cond (decide (a.iF<=8)) (cond (a.jH !=0) (cond (decide (0<=a.iF)) (cond (decide ((U W a.jH)<(ji W 1 a.iF))) (cond (decide (a.kR>=0)) (B ((decide (a.kR<=65535))))<|B (Z))<|B (Z)) M)<|B (Z))<|B (Z))<|B (Z))<|B (Z)
def acZ{a}(r)(h:DI a=B r):dX 230 [dP gE.cs a] ((e4 r)):=dc<|c7 12 [5] [] h (λh=>cJ 6 h) λh=>dK 2 2<|eN h (λaJ h=>fc 0 aJ<|eN h (λak h=>fc 4 ak<|eN h (λx h=>fc 4 x<|eN h (λS h=>fc 4 S<|eX h λg h=>fa 5<|AW (op:=.shl) (g:=W) (b:=W) (A:=1) (j:=a.iF) (f8 g) rfl dh J J<|eN h (λb h=>fc 2 b<|eN h (λd h=>fc 4 d<|dG 5 1<|cJ 0 h) λd h=>fc 4 d<|dG 5 1<|cJ 0 h) λb h=>fc 2 b<|dG 10 1<|cJ 0 h) λS h=>fc 4 S<|dG 19 1<|cJ 0 h) λx h=>fc 4 x<|dG 24 1<|cJ 0 h) λak h=>fc 4 ak<|dG 29 1<|cJ 0 h) λaJ h=>fc 0 aJ<|dG 34 1<|cJ 0 h
def Kb(d:E fh)(g b:Int):X (Int⊕Unit):=cond (decide (b<(F d:Int))) (O (di d b) λa=>cond (a.eb==0) M<|cond (a.eb==g) M<|O (DI a.iQ) λl=>cond l (cond a.iQ.nf (O (qa a.ge) λj=>cond j (O (qa a.uA) λk=>cond k (cond (decide (b>0)) (O (di d (U W (b-1))) λi=>cond (decide (i.eb>=a.eb)) M<|B (dV (U W (b+1))))<|B (dV (U W (b+1)))) M) M) M) M)<|B (du ())
def Ka(b:Int)(a:E fh):X Bool:=cond (decide ((F a:Int)>16)) M<|O (dq (Kb a b) 0) λd=>B (T)
def apB{i j}(r)(h:Ka i j=B r):dX 130 [.c (d6 i),dJ 8 fh.cs j] ((e4 r)):=dc<|eI 11 [9] [] h λh=>eQ 9 h (cX [0,1,10,11,12] []) (λg=>[(12,cS g)]) (λg=>[]) 0 iR (λk=>[]) (λk=>[]) (λg a h=>c7 5 [13] [] h (λh=>e5 6 fh.cs h λq h=>gF 12 [19,20] [] h λh=>gF 6 [24,25,26] [] h λh=>db 2 h acZ λt h=>eX h λm G=>by subst m;exact hW 9 [35] [36,37,38] G λG=>db 2 G s3 λs G=>eX G λo b=>by subst o;exact hu 5 [] 3 b s3 λb=>dK 2 2<|eN b (λd b=>fc 0 d<|hE 3 fh.cs b λp b=>dG 6 0<|lg b λl b=>dF 0 51 d<|dF 0 61 l<|dF 0 62 l<|dt 0<|ey 6 b) λd b=>fc 0 d<|dG 10 0<|dt 0<|ey 6 b) λh=>eo 2 h) λk h=>cJ 6 h
def oM(a:Int):X Bool:=cond (decide (a>=0)) (B ((decide (a<=65535))))<|B (Z)
def xc{a}(r)(h:oM a=B r):dX 326 [cS a] ((e4 r)):=dc<|gp 9 [4,5] [] h (λh=>cJ 6 h) λh=>cJ 6 h
def rp(a:e2):X Bool:=O (oM a.ff) λb=>B (b)
def zl{a}(r)(h:rp a=B r):dX 231 [dP e2.cs a] ((e4 r)):=dc<|db 9 h xc λb h=>cJ 3 h
def wB(a:Int):X Bool:=cond (decide (a>=0)) (B ((decide (a<=1099511627776))))<|B (Z)
def G1{a}(r)(h:wB a=B r):dX 232 [cS a] ((e4 r)):=dc<|gp 9 [4,5] [] h (λh=>cJ 6 h) λh=>cJ 6 h
def OO(a b:E Int):X Int:=B ((FU (cQ.cL .c_ a) (cQ.cL .c_ b)))
def acj{a b}(r)(h:OO a b=B r):dX 58 [dJ 1 (c4 cH) a,dJ 1 (c4 cH) b] ((cS r)):=dc<|cV 8<|aih 106 a b .c_ .c_ akK J J<|cJ 3 h
def nP(a b:c0):X Int:=O (OO (lr 16 a.ed.en) (lr 16 b.ed.en)) λd=>O (zS a.ed.fu b.ed.fu) λg=>O (OO (lr 16 a.dU.en) (lr 16 b.dU.en)) λi=>O (zS a.dU.fu b.dU.fu) λj=>O (sn a.dW b.dW) λk=>O (wc ([d,g,i,j,k]:E Int)) λl=>B (l)
def ub{a b}(r)(h:nP a b=B r):dX 61 [dP c0.cs a,dP c0.cs b] ((cS r)):=dc<|dK 7 2<|tO 2 0 16 (t:=0) (l:=16) h8 h8 J J<|fa 2<|tO 3 0 16 (t:=0) (l:=16) h8 h8 J J<|dC h λd i h=>Ls [] (acj d i) J J<|d0 6 h GR λk h=>fa 2<|tO 2 17 16 (t:=0) (l:=16) h8 h8 J J<|fa 2<|tO 3 17 16 (t:=0) (l:=16) h8 h8 J J<|dC h λg j h=>Ls [] (acj g j) J J<|d0 6 h GR λl h=>fa 4<|i7 J<|db 0 h Nc λm h=>i1 0 38 3 1 (c4 W) [] ([d,k,g,l,m]:E Int)<|nF 0 [[2]] h GS λo h=>cJ 3 h
def KW(d:E eh)(a:Int):X (Int⊕(Unit⊕Bool)):=cond (decide (a<(F d:Int))) (O (di d a) λb=>O (ne b.c3) λk=>cond k (O (rp b.si) λl=>cond l (cond (b.si.ff==65535) (B (du (du Z)))<|O (wB b.ge) λi=>cond i (cond (decide (a>0)) (O (di d (U W (a-1))) λg=>O (nP g.c3 b.c3) λj=>cond (decide (j>=0)) (B (du (du Z)))<|B (dV (U W (a+1))))<|B (dV (U W (a+1))))<|B (du (du Z)))<|B (du (du Z)))<|B (du (du Z)))<|B (du (dV ()))
def tF(a:E eh):X Bool:=cond (decide ((F a:Int)>256)) (B (Z))<|(dq (KW a) 0).bind (ku (λd=>B (T)) (λb=>B b))
abbrev vj:=cX [0,8,9,10] []
def zm{q}(r)(h:tF q=B r):dX 131 [dJ 38 eh.cs q] ((e4 r)):=dc<|c7 11 [7] [] h (λh=>cJ 6 h) λh=>lY 9 h vj (λp=>[(10,cS p)]) (λp=>[]) 0 iR (λs=>[]) (λs=>[]) (λA d p a h j=>c7 5 [11] [] h (λh=>e5 6 eh.cs h λu h=>db 10 h pm λy h=>eN h (λo G=>by subst o;exact db 4 G zl λz G=>eN G (λm b=>by subst m;exact gp 9 [29,30,31] [] b (λb=>dt 6<|iB 8 b j d λb=>cJ 2 b) λb=>ha 2 [] 3 b G1 (λb=>dK 2 2<|eN b (λg b=>fc 0 g<|hE 3 eh.cs b λt b=>fa 4<|i7 J<|db 0 b ub λx b=>eN b (λi b=>dF 3 38 g<|dF 0 49 i<|dF 0 50 i<|dt 0<|iB 7 b j d λb=>cJ 2 b) λi b=>dF 3 38 g<|dF 0 49 i<|dF 0 50 i<|dt 0<|ey 6 b) λg b=>fc 0 g<|dG 11 0<|dt 0<|ey 6 b) λb=>iB 8 b j d λb=>cJ 2 b) λm k=>by subst m;exact dt 15<|iB 8 k j d λk=>cJ 2 k) λo l=>by subst o;exact dt 20<|iB 8 l j d λl=>cJ 2 l) λh=>eo 2 h) λs h=>cJ 6 h
def Ej(a:e2):X Bool:=O (rp a) λb=>cond b (B ((a.ff !=65535))) M
def adf{a}(r)(h:Ej a=B r):dX 233 [dP e2.cs a] ((e4 r)):=dc<|db 8 h zl λb h=>eX h λaJ G=>by subst aJ;exact cJ 8 G
def tC(a:Int):X Bool:=cond (decide (a>=0)) (B ((decide (a<=1099511627776)))) M
def zk{a}(r)(h:tC a=B r):dX 234 [cS a] ((e4 r)):=dc<|hW 9 [4,5] [] h λh=>cJ 6 h
def uV(a b:dL):X Int:=O (nP a.c3 b.c3) λd=>O (sn a.eb b.eb) λg=>O (wc ([d,g]:E Int)) λi=>B (i)
def Tw{a b}(r)(h:uV a b=B r):dX 235 [dP dL.cs a,dP dL.cs b] ((cS r)):=dc<|dK 7 4<|d0 0 h ub λd h=>fa 4<|i7 J<|db 0 h Nc λg h=>i1 0 15 3 1 (c4 W) [] ([d,g]:E Int)<|nF 0 [[2]] h GS λi h=>cJ 3 h
end
section
attribute [local irreducible] TS go TD goD
def Km(d:E dL)(a:Int):X (Int⊕(Unit⊕Bool)):=cond (decide (a<(F d:Int))) (O (di d a) λb=>O (ne b.c3) λl=>cond l (cond (b.eb==0) (B (du (du Z)))<|O (Ej b.mF) λi=>cond i (O (tC b.ge) λj=>cond j (cond (decide (a>0)) (O (di d (U W (a-1))) λg=>O (uV g b) λk=>cond (decide (k>=0)) (B (du (du Z)))<|B (dV (U W (a+1))))<|B (dV (U W (a+1))))<|B (du (du Z)))<|B (du (du Z)))<|B (du (du Z)))<|B (du (dV ()))
def uU(a:E dL):X Bool:=cond (decide ((F a:Int)>512)) (B (Z))<|(dq (Km a) 0).bind (ku (λd=>B (T)) (λb=>B b))
def BV{q}(r)(h:uU q=B r):dX 132 [dJ 39 dL.cs q] ((e4 r)):=dc<|c7 11 [7] [] h (λh=>cJ 6 h) λh=>lY 9 h vj (λp=>[(10,cS p)]) (λp=>[]) 0 iR (λs=>[]) (λs=>[]) (λA d p a h j=>c7 5 [11] [] h (λh=>e5 6 dL.cs h λu h=>db 10 h pm λz h=>eN h (λo G=>by subst o;exact gp 7 [22,23,24] [] G (λG=>dt 12<|iB 8 G j d λG=>cJ 2 G) λG=>db 2 G adf λx G=>eN G (λm b=>by subst m;exact ha 5 [] 3 b zk (λb=>dK 2 2<|eN b (λg b=>fc 0 g<|hE 3 dL.cs b λt b=>fa 2<|i7 J<|db 0 b Tw λy b=>eN b (λi b=>dF 3 37 g<|dF 0 46 i<|dF 0 47 i<|dt 0<|iB 7 b j d λb=>cJ 2 b) λi b=>dF 3 37 g<|dF 0 46 i<|dF 0 47 i<|dt 0<|ey 6 b) λg b=>fc 0 g<|dG 9 0<|dt 0<|ey 6 b) λb=>iB 8 b j d λb=>cJ 2 b) λm k=>by subst m;exact dt 9<|iB 8 k j d λk=>cJ 2 k) λo l=>by subst o;exact dt 19<|iB 8 l j d λl=>cJ 2 l) λh=>eo 2 h) λs h=>cJ 6 h
def qD(a:dH):X Bool:=B ((a.eb !=0))
def BW{a}(r)(h:qD a=B r):dX 327 [dP dH.cs a] ((e4 r)):=dc<|cJ 13 h
def Ek(a:dH):X Bool:=O (ne a.c3) λb=>cond b (O (qD a) λg=>cond g (O (Ej a.fU) λi=>cond i (cond (a.kO==(-1)) (B ((a.ge==0)))<|O (tC a.kO) λj=>cond j (B ((a.ge==0)))<|B (Z))<|B (Z))<|cond (a.fU.ff==65535) (cond (a.kO==(-1)) (O (tC a.ge) λd=>B (d))<|B (Z))<|B (Z))<|B (Z)
def apF{d}(r)(h:Ek d=B r):dX 236 [dP dH.cs d] ((e4 r)):=dc<|ha 10 [] 2 h pm (λh=>ha 5 [] 1 h BW (λh=>db 4 h adf λl h=>eN h (λa G=>by subst a;exact gp 5 [15,16] [] G (λG=>cJ 14 G) λG=>db 2 G zk λm G=>eN G (λb g=>by subst b;exact cJ 11 g) λb i=>by subst b;exact cJ 11 i) λa j=>by subst a;exact cJ 19 j) λh=>gp 8 [30,31] [] h (λh=>gp 5 [34,35,36] [] h (λh=>db 2 h zk λk h=>cJ 4 h) λh=>cJ 7 h) λh=>cJ 12 h) λh=>cJ 6 h
def Kl(b:E dH)(a:Int):X (Int⊕(Unit⊕Bool)):=cond (decide (a<(F b:Int))) (O (di b a) λd=>O (Ek d) λj=>cond j (cond (decide (a>0)) (O (di b (U W (a-1))) λg=>O (nP g.c3 d.c3) λi=>cond (decide (i>=0)) (B (du (du Z)))<|B (dV (U W (a+1))))<|B (dV (U W (a+1))))<|B (du (du Z)))<|B (du (dV ()))
def yd(a:E dH):X Bool:=cond (decide ((F a:Int)>512)) (B (Z))<|(dq (Kl a) 0).bind (ku (λd=>B (T)) (λb=>B b))
def Np{k}(r)(h:yd k=B r):dX 133 [dJ 40 dH.cs k] ((e4 r)):=dc<|c7 11 [7] [] h (λh=>cJ 6 h) λh=>lY 9 h vj (λj=>[(10,cS j)]) (λj=>[]) 0 iR (λl=>[]) (λl=>[]) (λu m j a h o=>c7 5 [11] [] h (λh=>e5 6 dH.cs h λq h=>dK 6 1<|d0 0 h apF λt h=>eN h (λi G=>by subst i;exact eN G (λd G=>fc 4 d<|hE 3 dH.cs G λp G=>fa 4<|i7 J<|db 0 G ub λs G=>eN G (λb G=>dF 4 20 d<|dF 0 31 b<|dF 0 32 b<|dF 0 33 b<|dt 0<|iB 7 G o m λG=>cJ 2 G) λb G=>dF 4 20 d<|dF 0 31 b<|dF 0 32 b<|dF 0 33 b<|dt 0<|ey 6 G) λd G=>fc 4 d<|dG 12 0<|dt 0<|ey 6 G) λi g=>by subst i;exact dG 17 0<|dt 0<|iB 7 g o m λg=>cJ 2 g) λh=>eo 2 h) λl h=>cJ 6 h
def Aq(a:Int):X Bool:=cond (decide (a>=0)) (B ((decide (a<=1099511627776))))<|B (Z)
def Ts{a}(r)(h:Aq a=B r):dX 237 [cS a] ((e4 r)):=dc<|gp 9 [4,5] [] h (λh=>cJ 6 h) λh=>cJ 6 h
def JP(d:E eq)(b:Int):X (Int⊕(Unit⊕Bool)):=cond (decide (b<(F d:Int))) (O (di d b) λa=>O (ne a.c3) λk=>cond k (cond (decide (a.e3<1)) (B (du (du Z)))<|cond (decide (a.e3>32)) (B (du (du Z)))<|O (Aq a.Next) λi=>cond i (cond (decide (a.iG<1)) (B (du (du Z)))<|cond (decide (a.iG>3)) (B (du (du Z)))<|cond (decide (b>0)) (O (di d (U W (b-1))) λg=>O (nP g.c3 a.c3) λj=>cond (decide (j>=0)) (B (du (du Z)))<|B (dV (U W (b+1))))<|B (dV (U W (b+1))))<|B (du (du Z)))<|B (du (du Z)))<|B (du (dV ()))
def x4(a:E eq):X Bool:=cond (decide ((F a:Int)>64)) (B (Z))<|(dq (JP a) 0).bind (ku (λd=>B (T)) (λb=>B b))
def Nl{q}(r)(h:x4 q=B r):dX 134 [dJ 40 eq.cs q] ((e4 r)):=dc<|c7 11 [7] [] h (λh=>cJ 6 h) λh=>lY 9 h vj (λp=>[(10,cS p)]) (λp=>[]) 0 iR (λs=>[]) (λs=>[]) (λA d p a h g=>c7 5 [11] [] h (λh=>e5 6 eq.cs h λu h=>db 10 h pm λz h=>eN h (λo G=>by subst o;exact gp 7 [22,23,24] [] G (λG=>dt 21<|iB 8 G g d λG=>cJ 2 G) λG=>gp 5 [27,28,29] [] G (λG=>dt 16<|iB 8 G g d λG=>cJ 2 G) λG=>db 2 G Ts λx G=>eN G (λm b=>by subst m;exact gp 8 [38,39,40] [] b (λb=>dt 5<|iB 8 b g d λb=>cJ 2 b) λb=>c7 5 [43,44] [] b (λb=>iB 8 b g d λb=>cJ 2 b) λb=>dK 2 2<|eN b (λi b=>fc 0 i<|hE 3 eq.cs b λt b=>fa 4<|i7 J<|db 0 b ub λy b=>eN b (λj b=>dF 3 46 i<|dF 0 57 j<|dF 0 58 j<|dt 0<|iB 7 b g d λb=>cJ 2 b) λj b=>dF 3 46 i<|dF 0 57 j<|dF 0 58 j<|dt 0<|ey 6 b) λi b=>fc 0 i<|dG 11 0<|dt 0<|ey 6 b) λm k=>by subst m;exact dt 13<|iB 8 k g d λk=>cJ 2 k) λo l=>by subst o;exact dt 28<|iB 8 l g d λl=>cJ 2 l) λh=>eo 2 h) λs h=>cJ 6 h
def K6(b:E dB)(a:Int):X (Int⊕(Unit⊕Bool)):=cond (decide (a<(F b:Int))) (O (di b a) λd=>O (ne d.c3) λj=>cond j (O (oM d.fU.ff) λk=>cond k (cond (decide (a>0)) (O (di b (U W (a-1))) λg=>O (nP g.c3 d.c3) λi=>cond (decide (i>=0)) (B (du (du Z)))<|B (dV (U W (a+1))))<|B (dV (U W (a+1))))<|B (du (du Z)))<|B (du (du Z)))<|B (du (dV ()))
def EG(a:E dB):X Bool:=cond (decide ((F a:Int)>520)) (B (Z))<|(dq (K6 a) 0).bind (ku (λd=>B (T)) (λb=>B b))
def ads{m}(r)(h:EG m=B r):dX 238 [dJ 37 dB.cs m] ((e4 r)):=dc<|c7 11 [7] [] h (λh=>cJ 6 h) λh=>lY 9 h vj (λl=>[(10,cS l)]) (λl=>[]) 0 iR (λo=>[]) (λo=>[]) (λu i l a h k=>c7 5 [11] [] h (λh=>e5 6 dB.cs h λq h=>db 10 h pm λt h=>eN h (λj G=>by subst j;exact ha 5 [] 3 G xc (λG=>dK 2 2<|eN G (λb G=>fc 0 b<|hE 3 dB.cs G λp G=>fa 4<|i7 J<|db 0 G ub λs G=>eN G (λd G=>dF 3 27 b<|dF 0 38 d<|dF 0 39 d<|dt 0<|iB 7 G k i λG=>cJ 2 G) λd G=>dF 3 27 b<|dF 0 38 d<|dF 0 39 d<|dt 0<|ey 6 G) λb G=>fc 0 b<|dG 11 0<|dt 0<|ey 6 G) λG=>iB 8 G k i λG=>cJ 2 G) λj g=>by subst j;exact dt 9<|iB 8 g k i λg=>cJ 2 g) λh=>eo 2 h) λo h=>cJ 6 h
def AI(a:Int):X Bool:=cond (decide (a>=0)) (B ((decide (a<=1099511627776))))<|B (Z)
def adt{a}(r)(h:AI a=B r):dX 239 [cS a] ((e4 r)):=dc<|gp 9 [4,5] [] h (λh=>cJ 6 h) λh=>cJ 6 h
def AH(a:h_):X Bool:=O (EG a.fJ) λb=>cond b (O (AI a.oQ) λd=>B (d))<|B (Z)
def adr{a}(r)(h:AH a=B r):dX 135 [dP h_.cs a] ((e4 r)):=dc<|db 9 h ads λd h=>eN h (λaJ G=>by subst aJ;exact db 3 G adt λg G=>cJ 4 G) λaJ b=>by subst aJ;exact cJ 8 b
def PF(a:dL)(b:fH):X Bool:=B ((a.c3.dW==b.hr))
def apq{a b}(r)(h:PF a b=B r):dX 137 [dP dL.cs a,.c (.e1 (fH.cs b))] ((e4 r)):=dc<|cJ 16 h
def KP(b:E dL)(d:fH)(a:Int):X (Int⊕(Unit⊕Int)):=cond (decide (a<(F b:Int))) (O (di b a) λg=>O (PF g d) λi=>cond i (B (du (du a)))<|B (dV (U W (a+1))))<|B (du (dV ()))
def Qh(a:E dL)(b:fH):X Int:=(dq (KP a b) 0).bind (ku (λd=>B ((-1))) (λlZ=>B lZ))
def ap2{d g}(r)(h:Qh d g=B r):dX 240 [dJ 39 dL.cs d,.c (.gf 137 [.e1 (fH.cs g)])] ((cS r)):=dc<|lY 12 h tR (λb=>[(8,cS b)]) (λb=>[]) 0 iR (λi=>[]) (λi=>[]) (λm j b a h k=>c7 5 [9] [] h (λh=>e5 13 dL.cs h λl h=>ha 1 [] 1 h apq (λh=>iB 8 h k j λh=>cJ 2 h) λh=>ey 6 h) λh=>eo 2 h) λi h=>cJ 6 h
def KI(a:E dL)(b:fH):X Bool:=O (Qh a b) λd=>B ((decide (d>=0)))
def apT{a b}(r)(h:KI a b=B r):dX 136 [dJ 39 dL.cs a,.c (.gf 137 [.e1 (fH.cs b)])] ((e4 r)):=dc<|db 8 h ap2 λd h=>cJ 4 h
def PG(a:dH)(b:fH):X Bool:=B ((a.c3.dW==b.hr))
def apr{a b}(r)(h:PG a b=B r):dX 139 [dP dH.cs a,.c (.e1 (fH.cs b))] ((e4 r)):=dc<|cJ 16 h
def KM(b:E dH)(d:fH)(a:Int):X (Int⊕(Unit⊕Int)):=cond (decide (a<(F b:Int))) (O (di b a) λg=>O (PG g d) λi=>cond i (B (du (du a)))<|B (dV (U W (a+1))))<|B (du (dV ()))
def Qd(a:E dH)(b:fH):X Int:=(dq (KM a b) 0).bind (ku (λd=>B ((-1))) (λlZ=>B lZ))
def apY{d g}(r)(h:Qd d g=B r):dX 241 [dJ 40 dH.cs d,.c (.gf 139 [.e1 (fH.cs g)])] ((cS r)):=dc<|lY 12 h tR (λb=>[(8,cS b)]) (λb=>[]) 0 iR (λi=>[]) (λi=>[]) (λm j b a h k=>c7 5 [9] [] h (λh=>e5 13 dH.cs h λl h=>ha 1 [] 1 h apr (λh=>iB 8 h k j λh=>cJ 2 h) λh=>ey 6 h) λh=>eo 2 h) λi h=>cJ 6 h
def KG(a:E dH)(b:fH):X Bool:=O (Qd a b) λd=>B ((decide (d>=0)))
def apR{a b}(r)(h:KG a b=B r):dX 138 [dJ 40 dH.cs a,.c (.gf 139 [.e1 (fH.cs b)])] ((e4 r)):=dc<|db 8 h apY λd h=>cJ 4 h
def x5(a:fH):X Bool:=cond (a.hr==0) M<|O (qa a.j7) λk=>cond k (O (qa a.gH) λp=>cond p (O (qa a.jk) λq=>cond q (O (Kc a.hr a.gu) λs=>cond s (O (Ka a.hr a.eg) λb=>cond b (O (tF a.gT) λd=>cond d (O (uU a.gX) λg=>cond g (O (yd a.hh) λi=>cond i (O (x4 a.hj) λj=>cond j (O (AH a.gI) λl=>cond l (O (KI a.gX a) λm=>cond m M<|O (KG a.hh a) λo=>B ((!o))) M) M) M) M) M) M) M) M) M) M
def Nm{m}(r)(h:x5 m=B r):dX 73 [dP fH.cs m] ((e4 r)):=dc<|lQ 2<|gF 9 [5,6] [] h λh=>db 2 h s3 λD h=>eX h λak G=>by subst ak;exact db 5 G s3 λP G=>eX G λS d=>by subst S;exact db 5 d s3 λQ d=>eX d λu g=>by subst u;exact db 7 g apC λaa g=>eX g λx a=>by subst x;exact hu 7 [] 3 a apB λa=>db 6 a zm λy a=>eX a λo i=>by subst o;exact db 4 i BV λz i=>eX i λp j=>by subst p;exact db 5 j Np λA j=>eX j λq k=>by subst q;exact db 5 k Nl λC k=>eX k λs b=>by subst s;exact hu 5 [] 3 b adr λb=>k0 5<|db 0 b apT λK b=>lg b λt l=>by subst t;exact k0 4<|db 0 l apR λN l=>cJ 5 l
def agi(b d:E gl)(a:Int):X (Int⊕Unit):=cond (decide (a<(F b:Int))) (O (di b a) λg=>O (di d a) λi=>cond (gl.fV g i) (B (dV (U W (a+1)))) M)<|B (du ())
def KJ(a b:E gl):X Bool:=cond ((F a:Int) !=(F b:Int)) M<|O (dq (agi a b) 0) λd=>B (T)
def apV{d g}(r)(h:KJ d g=B r):dX 74 [dJ 34 gl.cs d,dJ 34 gl.cs g] ((e4 r)):=dc<|eI 13 [10] [] h λh=>eQ 9 h (cX [0,1,12,13] []) (λb=>[(13,cS b)]) (λb=>[]) 0 iR (λi=>[]) (λi=>[]) (λb a h=>c7 5 [14] [] h (λh=>dK 9 2<|hE 0 gl.cs h λj h=>hE 3 gl.cs h λk h=>dG 2 0<|hb 0 [] [24] h λh=>ey 6 h) λh=>eo 2 h) λi h=>cJ 6 h
def Ap(a:fj):X Bool:=O (tx a) λb=>cond b (B ((a.Mode !=0))) M
def Nk{a}(r)(h:Ap a=B r):dX 242 [dP fj.cs a] ((e4 r)):=dc<|db 8 h zi λb h=>eX h λaJ G=>by subst aJ;exact cJ 8 G
def DR(a:Int):X Bool:=cond (decide (a>=0)) (B ((decide (a<=1099511627776)))) M
def ac2{a}(r)(h:DR a=B r):dX 187 [cS a] ((e4 r)):=dc<|hW 9 [4,5] [] h λh=>cJ 6 h
def uI(a:fq):X Bool:=cond (decide (a.iY<1)) M<|cond (decide (a.iY>2047)) M<|cond (decide (a.iX<0)) M<|cond (decide (a.iX>=a.iY)) M<|cond ((hc a.iX 8) !=0) M<|cond ((F a.gA:Int)==0) M<|cond (decide ((F a.gA:Int)>(U W (a.iY-a.iX)))) M<|cond ((F a.gA:Int)==(U W (a.iY-a.iX))) (B (T))<|B (((hc (F a.gA:Int) 8)==0))
def BQ{a}(r)(h:uI a=B r):dX 243 [dP fq.cs a] ((e4 r)):=dc<|gF 12 [6,7] [] h λh=>gF 5 [10,11,12] [] h λh=>gF 5 [15,16,17] [] h λh=>gF 7 [22,23,24] [] h λh=>eI 6 [28,29] [] h λh=>gF 18 [38,39] [] h λh=>eI 7 [44,45] [] h λh=>gp 9 [50,51] [] h (λh=>cJ 9 h) λh=>cJ 9 h
def An(a:fq):X Int:=B (U W (a.iX+(F a.gA:Int)))
def Tr{a}(r)(h:An a=B r):dX 244 [dP fq.cs a] ((cS r)):=dc<|cJ 16 h
def JK(d:eG)(b:Int×Int×Int):X ((Int×Int×Int)⊕Int):=cond (decide (b.2.2<(F d.j5:Int))) (O (di d.j5 b.2.2) λa=>O (uI a) λg=>cond g (cond (a.iY !=d.iY) M<|cond (a.eA !=d.eA) M<|cond (decide (a.iX<b.2.1)) M<|O (An a) λi=>B (dV (U W (b.1+(F a.gA:Int)),i,U W (b.2.2+1)))) M)<|B (du b.1)
def JJ(a:eG):X Bool:=O (Ap a.dU) λd=>cond d (O (Ap a.ed) λg=>cond g (O (DR a.ge) λi=>cond i (cond ((F a.j5:Int)==0) M<|O (dq (JK a) (0,0,0)) λb=>B ((decide (b<a.iY)))) M) M) M
abbrev LH:=cX [1,3] [1]
def apk{k}(r)(h:JJ k=B r):dX 142 [dP eG.cs k] ((e4 r)):=dc<|db 10 h Nk λp h=>eX h λaJ G=>by subst aJ;exact db 4 G Nk λt G=>eX G λx j=>by subst x;exact db 5 j ac2 λu j=>eX j λm b=>by subst m;exact eI 9 [27,28] [] b λb=>eQ 15 b (cX [1,3,4,30,31,32] [1]) (λg=>[(3,cS g.1),(4,cS g.2.1),(32,cS g.2.2)]) (λg=>[]) 0 LH (λi=>[(3,cS i)]) (λi=>[]) (λg a b=>c7 5 [33] [] b (λb=>e5 5 fq.cs b λo b=>db 8 b BQ λq b=>eX b λl d=>by subst l;exact gF 9 [44,45,46] [] d λd=>gF 7 [51,52,53] [] d λd=>eI 6 [57,58] [] d λd=>db 12 d Tr λs d=>ey 7 d) λb=>eo 2 b) λi b=>cJ 10 b
def x2(a:eG)(b d:fj)(g i:Int):X Bool:=cond (fj.fV a.dU b) (cond (fj.fV a.ed d) (cond (a.eA==g) (B ((a.iY==i)))<|B (Z))<|B (Z))<|B (Z)
def ac1{a b d g i}(r)(h:x2 a b d g i=B r):dX 141 [dP eG.cs a,dP fj.cs b,dP fj.cs d,kX g,cS i] ((e4 r)):=dc<|gp 14 [14,15] [] h (λh=>gp 6 [19,20,21] [] h (λh=>gp 6 [25,26,27] [] h (λh=>cJ 8 h) λh=>cJ 8 h) λh=>cJ 14 h) λh=>cJ 20 h
def DP(a b:Int):X (Int⊕Unit):=cond (decide (b>=0)) M<|B (dV (U W (a+1)))
def JH(d:E eG)(a:eG)(b:Int):X (Int⊕(Unit⊕Int)):=cond (decide (b<(F d:Int))) (O (di d b) λg=>O (x2 g a.dU a.ed a.eA a.iY) λi=>cond i (B (du (du b)))<|B (dV (U W (b+1))))<|B (du (dV ()))
def JG(b:E eG)(a:Int):X (Int⊕Unit):=cond (decide (a<(F b:Int))) (O (di b a) λd=>O (JJ d) λi=>cond i (O (g2 b 0 a) λg=>(dq (JH g d) 0).bind (ku (λk=>(DP a) (-1)) (λj=>(DP a) j))) M)<|B (du ())
def Al(a:E eG):X Bool:=cond (decide ((F a:Int)>4)) M<|O (dq (JG a) 0) λb=>B (T)
abbrev Zk:=cX [2000000,2000009,2000010,2000011,2000020,7] []
def Tq{b}(r)(h:Al b=B r):dX 75 [dJ 10 eG.cs b] ((e4 r)):=dc<|eI 11 [8] [] h λh=>eQ 9 h (cX [0,9,10,11] []) (λd=>[(11,cS d)]) (λd=>[]) 0 iR (λm=>[]) (λm=>[]) (λd a h=>c7 5 [12] [] h (λh=>e5 6 eG.cs h λx h=>k0 7<|db 5 h apk λA h=>eX h λq G=>by subst q;exact kh 4 eG.cs 10 G λy G=>dj 1 (cX [0,9,10,11,20,23,24] [4])<|f_ 0 2000<|gZ 9 143<|dj 8 (cX [sv,2000009,sw,u0,2000020,5,6] [2004])<|f_ 0 2000<|mI 19 Tryz.func245 rfl rfl (cX [sv,2000009,sw,u0,2000020] []) (λk=>[(7,cS k)]) (λk=>[]) (DP d) a J (λk G=>cV 4<|gN J J<|eI 2 [25,26] [] G λG=>ey 6 G) λt=>lY 12 G (cX [0,1,7,8,4000000,4000009,4000010,4000011,4000020] [4004]) (λg=>[(8,cS g)]) (λg=>[]) 0 (cX [4000000,4000009,4000010,4000011,4000020] []) (λl=>[(4000000,dJ 10 eG.cs b),(4000009,dJ 10 eG.cs b),(4000010,cS<|(F b:Int)),(4000011,cS d),(4000020,e4 Z)]) (λl=>[]) (λC p g a G s=>c7 5 [9] [] G (λG=>e5 13 eG.cs G λu G=>dj 1 (cX [0,1,7,8,4000000,4000009,4000010,4000011,4000020,5,11,15] [4004])<|f_ 0 2000<|gZ 14 140<|db 16 G ac1 λz G=>cV 3<|gN J J<|eN G (λj i=>by subst j;exact dt 1<|iB 8 i s p λi=>cV 2<|hH g Zk i J J J) λj o=>by subst j;exact dt 1<|cV 6<|by cases o;exact Ff _ (eE [0,1,7,8,4000000,4000009,4000010,4000011,4000020] [(6004,4004)]) rfl J J) λG=>eo 2 G) λl G=>cV 6<|hH (-1) Zk G J J J) λh=>eo 2 h) λm h=>cJ 6 h
def af3(a:E hR)(b:Unit):X (Unit⊕Unit):=cond (decide (0<(F a:Int))) M<|B (du ())
def z6(a:E hR):X Bool:=cond (decide ((F a:Int)>8)) M<|O (dq (af3 a) ()) λb=>B (T)
def Ti{b}(r)(h:z6 b=B r):dX 76 [dJ 3 hR.cs b] ((e4 r)):=dc<|eI 11 [8] [] h λh=>eQ 13 h (cX [3,9,10,11] []) (λg=>[]) (λg=>[]) 0 iR (λd=>[]) (λd=>[]) (λg a h=>eI 5 [12] [] h λh=>eo 2 h) λd h=>cJ 6 h
def af0(a:E kl)(b:Unit):X (Unit⊕Unit):=cond (decide (0<(F a:Int))) M<|B (du ())
def Pd(a:E kl):X Bool:=cond (decide ((F a:Int)>64)) M<|O (dq (af0 a) ()) λb=>B (T)
def aoT{b}(r)(h:Pd b=B r):dX 77 [dJ 3 kl.cs b] ((e4 r)):=dc<|eI 11 [8] [] h λh=>eQ 13 h (cX [3,9,10,11] []) (λg=>[]) (λg=>[]) 0 iR (λd=>[]) (λd=>[]) (λg a h=>eI 5 [12] [] h λh=>eo 2 h) λd h=>cJ 6 h
def af1(a:E iw)(b:Unit):X (Unit⊕Unit):=cond (decide (0<(F a:Int))) M<|B (du ())
def Db(a:E iw):X Bool:=cond (decide ((F a:Int)>32)) M<|O (dq (af1 a) ()) λb=>B (T)
def acK{b}(r)(h:Db b=B r):dX 78 [dJ 34 iw.cs b] ((e4 r)):=dc<|eI 11 [7] [] h λh=>eQ 9 h vj (λg=>[]) (λg=>[]) 0 iR (λd=>[]) (λd=>[]) (λg a h=>eI 5 [11] [] h λh=>eo 2 h) λd h=>cJ 6 h
def Ja(d:d3)(b:Int):X (Int⊕Unit):=cond (decide (b<(F d.ex:Int))) (O (di d.ex b) λa=>cond (a.c3==0) M<|cond (decide ((F a.Bytes:Int)>127)) M<|cond (decide (a.iG<0)) M<|cond (decide (a.iG>3)) M<|O (sp a.mz) λg=>cond g (B (dV (U W (b+1)))) M)<|B (du ())
def uQ(a:d3):X Bool:=O (Ab a.gS) λd=>cond d (O (wg a.dl) λm=>cond m (cond ((F a.dl.jj:Int) !=1) M<|O (di a.dl.jj 0) λb=>cond (h9.fV b (h9.mk 1 a.gS.hJ)) (cond (decide (a.rl<0)) M<|cond (decide (a.rl>1073741824)) M<|O (sp a.tw) λg=>cond g (O (sp a.o4) λi=>cond i (O (x5 a.dW) λj=>cond j (cond (a.dW.hr !=a.gS.h1) M<|O (KJ a.dW.gu a.gS.gu) λk=>cond k (O (Al a.g1) λl=>cond l (cond (decide ((F a.ex:Int)>32)) M<|O (dq (Ja a) 0) λt=>O (z6 a.ni) λo=>cond o (O (C3 a.j9) λp=>cond p (O (Pd a.pL) λq=>cond q (O (Db a.oJ) λs=>B (s)) M) M) M) M) M) M) M) M) M) M) M
def BU{o}(r)(h:uQ o=B r):dX 41 [dP d3.cs o] ((e4 r)):=dc<|db 10 h Tk λD h=>eX h λaJ G=>by subst aJ;exact db 4 G GT λQ G=>eX G λx d=>by subst x;exact eI 10 [20,21] [] d λd=>dK 3 3<|hE 0 h9.cs d λA d=>dG 6 0<|hb 0 [] [31] d λd=>gF 8 [34,35] [] d λd=>gF 5 [38,39,40] [] d λd=>db 2 d xd λK d=>eX d λq i=>by subst q;exact hu 5 [] 3 i xd λi=>db 6 i Nm λN i=>eX i λs g=>by subst s;exact gF 11 [63,64,65] [] g λg=>hu 6 [] 3 g apV λg=>db 6 g Tq λP g=>eX g λt b=>by subst t;exact eI 8 [83,84] [] b λb=>eQ 10 b (cX [1,86,87,88] [1]) (λm=>[(88,cS m)]) (λm=>[]) 0 (cX [1] [1]) (λp=>[]) (λp=>[]) (λm a b=>c7 5 [89] [] b (λb=>e5 5 es.cs b λC b=>gF 10 [94,95] [] b λb=>gF 6 [99,100,101] [] b λb=>gF 5 [104,105,106] [] b λb=>gF 5 [109,110,111] [] b λb=>hu 2 [] 3 b xd λb=>ey 6 b) λb=>eo 2 b) λp b=>db 5 b Ti λS b=>eX b λu j=>by subst u;exact db 3 j acB λaa j=>eX j λy k=>by subst y;exact db 4 k aoT λab k=>eX k λz l=>by subst z;exact db 4 l acK λad l=>cJ 4 l
def IV(b:eZ)(a:Int):X (Int⊕Unit):=cond (decide (a<(F b.fB:Int))) (O (di b.fB a) λd=>O (uQ d) λg=>cond g (O (Dd b.fB d.gS.h1) λi=>cond (i !=a) M<|B (dV (U W (a+1)))) M)<|B (du ())
def IW(b:eZ)(a:Int):X (Int⊕Unit):=cond (decide (a<(F b.eg:Int))) (O (di b.eg a) λd=>cond ((F d:Int) !=(F b.fB:Int)) M<|O (di d a) λg=>cond g M<|B (dV (U W (a+1))))<|B (du ())
def IX(b:eZ)(d:Int):X (Int⊕Unit):=cond (decide (d<(F b.hg:Int))) (O (di b.hg d) λa=>cond (decide (a.c3<0)) M<|cond (decide (a.c3>=(F b.fB:Int))) M<|cond (decide (a.p8<0)) M<|cond (decide (a.p8>1099511627776)) M<|cond (decide ((F a.Bytes:Int)>127)) M<|B (dV (U W (d+1))))<|B (du ())
def z9(a:eZ):X Bool:=cond (decide ((F a.fB:Int)<1)) M<|cond (decide ((F a.fB:Int)>12)) M<|cond (decide (a.fg<0)) M<|cond (decide (a.fg>1099511627776)) M<|cond ((F a.eg:Int) !=(F a.fB:Int)) M<|cond ((F a.hU:Int) !=(F a.fB:Int)) M<|O (dq (IV a) 0) λg=>O (dq (IW a) 0) λb=>cond (decide ((F a.hg:Int)>1024)) M<|cond (decide ((F a.jr:Int)>65536)) M<|cond (decide ((F a.fI:Int)>4096)) M<|O (dq (IX a) 0) λd=>B (T)
def acL{i}(r)(h:z9 i=B r):dX 25 [dP eZ.cs i] ((e4 r)):=dc<|gF 18 [14,15] [] h λh=>gF 4 [17,18,19] [] h λh=>gF 5 [22,23,24] [] h λh=>gF 5 [27,28,29] [] h λh=>gF 7 [34,35,36] [] h λh=>eI 7 [41,42] [] h λh=>eQ 10 h (cX [1,3,44,45,46] [1]) (λg=>[(46,cS g)]) (λg=>[]) 0 LH (λl=>[]) (λl=>[]) (λg a h=>c7 5 [47] [] h (λh=>e5 6 d3.cs h λu h=>db 8 h BU λx h=>eX h λo G=>by subst o;exact db 7 G acM λy G=>eI 4 [62,63] [] G λG=>ey 6 G) λh=>eo 2 h) λl h=>eQ 10 h (cX [1,3,66,67,68] [1]) (λb=>[(68,cS b)]) (λb=>[]) 2 LH (λj=>[]) (λj=>[]) (λb a h=>c7 5 [69] [] h (λh=>e5 6 (jK 1 i0) h λq h=>gF 11 [76,77] [] h λh=>e5 2 i0 h λs h=>lg h λp m=>by subst p;exact dt 3<|ey 6 m) λh=>eo 2 h) λj h=>gF 9 [87,88] [] h λh=>gF 6 [92,93,94] [] h λh=>eI 6 [98,99] [] h λh=>eQ 10 h (cX [3,101,102,103] []) (λd=>[(103,cS d)]) (λd=>[]) 4 iR (λk=>[]) (λk=>[]) (λd a h=>c7 5 [104] [] h (λh=>e5 5 gm.cs h λt h=>gF 10 [109,110] [] h λh=>gF 6 [114,115,116] [] h λh=>gF 5 [119,120,121] [] h λh=>gF 5 [124,125,126] [] h λh=>eI 6 [130,131] [] h λh=>ey 6 h) λh=>eo 2 h) λk h=>cJ 6 h
def wo(b:eZ)(a:pM):X Int:=O (z9 b) λi=>cond i (cond (decide (a.gi<1)) (B (2))<|cond (decide (a.gi>10)) (B (2))<|cond (a.gi==10) (cond (decide ((F a.gA:Int)>(U W (65536-(F b.jr:Int))))) (B (10))<|B (0))<|cond (decide (a.A<0)) (B (2))<|cond (decide (a.A>=(F b.fB:Int))) (B (2))<|cond (a.gi==1) (cond (decide (a.eB<0)) (B (2))<|cond (decide (a.eB>=(F b.fB:Int))) (B (2))<|cond (a.A==a.eB) (B (2))<|O (di b.hU a.A) λd=>cond d (cond (a.gi !=1) (cond (a.gi !=3) (B (11))<|B (0))<|B (0))<|B (0))<|O (di b.hU a.A) λg=>cond g (cond (a.gi !=1) (cond (a.gi !=3) (B (11))<|B (0))<|B (0))<|B (0))<|B (1)
def ao8{g i}(r)(h:wo g i=B r):dX 32 [dP eZ.cs g,dP pM.cs i] ((cS r)):=dc<|ha 10 [] 2 h acL (λh=>gp 8 [10,11] [] h (λh=>dt 5<|cJ 6 h) λh=>c7 5 [14,15] [] h (λh=>cJ 6 h) λh=>c7 8 [18] [] h (λh=>c7 12 [26] [] h (λh=>cJ 7 h) λh=>cJ 7 h) λh=>gp 8 [29,30] [] h (λh=>dt 8<|cJ 6 h) λh=>c7 8 [36,37] [] h (λh=>cJ 6 h) λh=>gp 8 [40,41] [] h (λh=>gp 4 [44,45] [] h (λh=>dt 16<|cJ 6 h) λh=>gp 8 [51,52,53] [] h (λh=>dt 8<|cJ 6 h) λh=>c7 8 [58,59,60] [] h (λh=>cJ 6 h) λh=>e5 8 i0 h λl h=>eN h (λb G=>by subst b;exact gp 7 [70,71,72] [] G (λG=>c7 5 [75,76] [] G (λG=>cJ 6 G) λG=>cJ 6 G) λG=>dt 5<|cJ 6 G) λb j=>by subst b;exact dt 12<|cJ 6 j) λh=>dt 20<|e5 8 i0 h λm h=>eN h (λd a=>by subst d;exact gp 7 [70,71,72] [] a (λa=>c7 5 [75,76] [] a (λa=>cJ 6 a) λa=>cJ 6 a) λa=>dt 5<|cJ 6 a) λd k=>by subst d;exact dt 12<|cJ 6 k) λh=>cJ 6 h
def P7(a:E h9):X (E h9):=O (ej 17 [] (cQ.cL .c_ a)) λb=>B (b)
def aoq{g}(d)(i:P7 g=B d):ei 147 [dJ 17 h9.cs g] [] (.c (d7 17 gv h9.cs d)) [(c9,cW 171 17 d)]:=let j:=171;let b:=17;let k:=h9.cs;qT
def P9(a:E e_):X (E e_):=O (ej 40 [] (cQ.cL .c_ a)) λb=>B (b)
def aos{g}(d)(i:P9 g=B d):ei 148 [dJ 6 e_.cs g] [] (.c (d7 6 gv e_.cs d)) [(c9,cW 246 6 d)]:=let j:=246;let b:=6;let k:=e_.cs;qT
def P2(a:E fh):X (E fh):=O (ej 56 [] (cQ.cL .c_ a)) λb=>B (b)
def aoh{g}(d)(i:P2 g=B d):ei 247 [dJ 8 fh.cs g] [] (.c (d7 8 gv fh.cs d)) [(c9,cW 375 8 d)]:=let j:=375;let b:=8;let k:=fh.cs;qT
def yl(a:E eh):X (E eh):=O (ej 80 [] (cQ.cL .c_ a)) λb=>B (b)
def Tc{g}(d)(i:yl g=B d):ei 248 [dJ 38 eh.cs g] [] (.c (d7 38 gv eh.cs d)) [(c9,cW 378 38 d)]:=let j:=378;let b:=38;let k:=eh.cs;qT
def yk(a:E dL):X (E dL):=O (ej 88 [] (cQ.cL .c_ a)) λb=>B (b)
def Tb{g}(d)(i:yk g=B d):ei 249 [dJ 39 dL.cs g] [] (.c (d7 39 gv dL.cs d)) [(c9,cW 260 39 d)]:=let j:=260;let b:=39;let k:=dL.cs;qT
def yh(a:E dH):X (E dH):=O (ej 96 [] (cQ.cL .c_ a)) λb=>B (b)
def S9{g}(d)(i:yh g=B d):ei 250 [dJ 40 dH.cs g] [] (.c (d7 40 gv dH.cs d)) [(c9,cW 264 40 d)]:=let j:=264;let b:=40;let k:=dH.cs;qT
def yi(a:E eq):X (E eq):=O (ej 96 [] (cQ.cL .c_ a)) λb=>B (b)
def S_{g}(d)(i:yi g=B d):ei 251 [dJ 40 eq.cs g] [] (.c (d7 40 gv eq.cs d)) [(c9,cW 382 40 d)]:=let j:=382;let b:=40;let k:=eq.cs;qT
def tD(a:E dB):X (E dB):=O (ej 72 [] (cQ.cL .c_ a)) λb=>B (b)
def M_{g}(d)(i:tD g=B d):ei 252 [dJ 37 dB.cs g] [] (.c (d7 37 gv dB.cs d)) [(c9,cW 397 37 d)]:=let j:=397;let b:=37;let k:=dB.cs;qT
def Jd(a:fH):X fH:=O (sq a.gu) λb=>O (P2 a.eg) λd=>O (yl a.gT) λg=>O (yk a.gX) λi=>O (yh a.hh) λj=>O (yi a.hj) λk=>O (tD a.gI.fJ) λl=>B ((fH.mk a.hr a.dx a.j7 a.gH a.i3 a.jk b d g i j k ({a.gI with fJ:=l})))
abbrev YH:E (Nat×Nat):=[(5,900006),(9,900007),(13,900008),(17,900009),(21,900010),(25,900011),(30,900012),(2,2)]
def anL{a}(r)(h:Jd a=B r):ei 149 [dP fH.cs a] [] (.agg (eT [(6,rv),(7,900009),(8,900010),(9,900011),(10,900012),(11,900013),(12,AN)] (fH.cs r))) [(mj,cW 134 34 r.gu),(900007,cW 375 8 r.eg),(rv,cW 378 38 r.gT),(900009,cW 260 39 r.gX),(900010,cW 264 40 r.hh),(900011,cW 382 40 r.hj),(900012,cW 397 37 r.gI.fJ)]:=dc<|dN 9 [] [(5,c9)] M h GN λb h=>dN 7 [] [(9,c9)] M h aoh λd h=>dN 7 [] [(13,c9)] M h Tc λg h=>dN 7 [] [(17,c9)] M h Tb λi h=>dN 7 [] [(21,c9)] M h S9 λj h=>dN 7 [] [(25,c9)] M h S_ λk h=>dN 8 [] [(30,c9)] M h M_ λl h=>dj 9 (eE [2] YH)<|cJ 1 h
def Pm(a:fq):X fq:=O (nN a.gA) λb=>B ({a with gA:=b})
def anN{a}(r)(h:Pm a=B r):ei 153 [dP fq.cs a] [] (.agg (eT [(3,u1)] (fq.cs r))) [(mD,cW 5 1 r.gA)]:=dc<|dN 9 [] [(5,c9)] M h s2 λb h=>dj 8 (eE [2] [(5,mD),(2,2)])<|cJ 1 h
def Pr(b:E fq)(a:(E fq)×Int):X ((E fq×Int)⊕((E fq))):=cond (decide (a.2<(F b:Int))) (O (di b a.2) λd=>O (Pm d) λi=>O (ej 48 a.1 (cQ.cL .c_ ([i]:E fq))) λg=>B (dV (g,U W (a.2+1))))<|B (du a.1)
def Jh(a:E fq):X (E fq):=O (h4 48 0 (F a:Int)) λd=>O (dq (Pr a) ((fe d ((fq.mk 0 0 0 ([]:E Int)):fq)),0)) λb=>B (b)
abbrev vl:=cX [5] [10]
abbrev tS:=eE [4] [(10,900000)]
abbrev vk:=cX [1,5,11,12,13] [10]
def anS{g}(r)(h:Jh g=B r):ei 152 [dJ 4 fq.cs g,.c (.cY (.func (.func 153) #[] #[]))] [] (.c (d7 4 gv fq.cs r)) [(c9,cW 282 4 r)]:=dc<|dC h λl i h=>cV 8<|sI 10 282 4 fq.cs ((fq.mk 0 0 0 []):fq) [0,0,0,2] (d:=[c5 0,fm 0,c5 0,ia]) (s:=0) (c:=(F g:Int)) i J J J<|eQ 10 h vk (λb=>[(5,.c<|d7 4 12 fq.cs b.1),(13,cS b.2)]) (λb=>[(10,cW 282 4 b.1)]) 0 vl (λd=>[(5,.c<|d7 4 12 fq.cs d)]) (λd=>[(10,cW 282 4 d)]) (λb a h=>c7 5 [14] [] h (λh=>e5 5 fq.cs h λk h=>dN 8 [] [(20,mD)] M h anN λm h=>jL 0 21 282 4 fq.cs [0,0,0,2] 0 10 h λj h=>ey 7 h) λh=>eo 2 h) λd h=>dj 6 tS<|cJ 1 h
def Do(a:eG):X eG:=O (Jh a.j5) λb=>B ({a with j5:=b})
def ab8{a}(r)(h:Do a=B r):ei 151 [dP eG.cs a] [] (.agg (eT [(8,900010)] (eG.cs r))) [(rv,cW 282 4 r.j5)]:=dc<|dN 9 [] [(5,c9)] M h anS λb h=>dj 8 (eE [2] [(5,rv),(2,2)])<|cJ 1 h
def Po(b:E eG)(a:(E eG)×Int):X ((E eG×Int)⊕((E eG))):=cond (decide (a.2<(F b:Int))) (O (di b a.2) λd=>O (Do d) λi=>O (ej 96 a.1 (cQ.cL .c_ ([i]:E eG))) λg=>B (dV (g,U W (a.2+1))))<|B (du a.1)
def Jf(a:E eG):X (E eG):=O (h4 96 0 (F a:Int)) λd=>O (dq (Po a) ((fe d ((eG.mk (fj.mk 0 0 0) (fj.mk 0 0 0) 0 0 [] 0):eG)),0)) λb=>B (b)
abbrev A5:=l0 8 [5]
abbrev Y5:=fj.mk 0 0 0
abbrev Rq:=eG.mk Y5 Y5 0 0 [] 0
def anO{g}(r)(h:Jf g=B r):ei 150 [dJ 10 eG.cs g,.c (.cY (.func (.func 151) #[] #[]))] [] (.c (d7 10 gv eG.cs r)) [(c9,cW 268 10 r)]:=dc<|dC h λl i h=>cV 8<|sI 10 268 10 eG.cs (Rq:eG) A5 (d:=[c5 0,fm 0,d6 0,c5 0,fm 0,d6 0,fm 0,c5 0,ia,c5 0]) (s:=0) (c:=(F g:Int)) i J J J<|eQ 10 h vk (λb=>[(5,.c<|d7 10 12 eG.cs b.1),(13,cS b.2)]) (λb=>[(10,cW 268 10 b.1)]) 0 vl (λd=>[(5,.c<|d7 10 12 eG.cs d)]) (λd=>[(10,cW 268 10 d)]) (λb a h=>c7 5 [14] [] h (λh=>e5 5 eG.cs h λk h=>dN 8 [] [(20,rv)] M h ab8 λm h=>jL 0 21 268 10 eG.cs A5 0 10 h λj h=>ey 7 h) λh=>eo 2 h) λd h=>dj 6 tS<|cJ 1 h
def Dp(a:es):X es:=O (nN a.Bytes) λb=>B ({a with Bytes:=b})
def ab9{a}(r)(h:Dp a=B r):ei 155 [dP es.cs a] [] (.agg (eT [(2,j4)] (es.cs r))) [(gv,cW 5 1 r.Bytes)]:=dc<|dN 9 [] [(5,c9)] M h s2 λb h=>dj 8 (eE [2] [(5,gv),(2,2)])<|cJ 1 h
def Pv(b:E es)(a:(E es)×Int):X ((E es×Int)⊕((E es))):=cond (decide (a.2<(F b:Int))) (O (di b a.2) λd=>O (Dp d) λi=>O (ej 56 a.1 (cQ.cL .c_ ([i]:E es))) λg=>B (dV (g,U W (a.2+1))))<|B (du a.1)
def Ji(a:E es):X (E es):=O (h4 56 0 (F a:Int)) λd=>O (dq (Pv a) ((fe d ((es.mk 0 0 [] 0 0):es)),0)) λb=>B (b)
abbrev LJ:=es.mk 0 0 [] 0 0
def anV{g}(r)(h:Ji g=B r):ei 154 [dJ 5 es.cs g,.c (.cY (.func (.func 155) #[] #[]))] [] (.c (d7 5 gv es.cs r)) [(c9,cW 183 5 r)]:=dc<|dC h λl i h=>cV 8<|sI 10 183 5 es.cs (LJ:es) [0,0,2] (d:=[d6 0,hL 0,ia,c5 0,c5 0]) (s:=0) (c:=(F g:Int)) i J J J<|eQ 10 h vk (λb=>[(5,.c<|d7 5 12 es.cs b.1),(13,cS b.2)]) (λb=>[(10,cW 183 5 b.1)]) 0 vl (λd=>[(5,.c<|d7 5 12 es.cs d)]) (λd=>[(10,cW 183 5 d)]) (λb a h=>c7 5 [14] [] h (λh=>e5 5 es.cs h λk h=>dN 8 [] [(20,gv)] M h ab9 λm h=>jL 0 21 183 5 es.cs [0,0,2] 0 10 h λj h=>ey 7 h) λh=>eo 2 h) λd h=>dj 6 tS<|cJ 1 h
def af_(a:E hR)(b:Unit):X (Unit⊕Unit):=cond (decide (0<(F a:Int))) M<|B (du ())
def Ps(a:E hR):X (E hR):=O (h4 40 0 (F a:Int)) λb=>O (dq (af_ a) ()) λd=>B ((fe b ((hR.mk 0 0 ([]:E yE)):hR)))
def anT{b}(r)(h:Ps b=B r):ei 156 [dJ 3 hR.cs b,.c (.cY (.func (.func 157) #[] #[]))] [] (.c (d7 3 gv hR.cs r)) [(c9,cW 274 3 r)]:=dc<|dC h λj i h=>cV 8<|sI 10 274 3 hR.cs ((hR.mk 0 0 []):hR) [0,0,12] (d:=[d6 0,c5 0,ia]) (s:=0) (c:=(F b:Int)) i J J J<|eQ 10 h vk (λg=>[]) (λg=>[]) 0 vl (λd=>[]) (λd=>[]) (λg a h=>eI 5 [14] [] h λh=>eo 2 h) λd h=>dj 6 tS<|cJ 1 h
def af8(a:E kl)(b:Unit):X (Unit⊕Unit):=cond (decide (0<(F a:Int))) M<|B (du ())
def Pp(a:E kl):X (E kl):=O (h4 40 0 (F a:Int)) λb=>O (dq (af8 a) ()) λd=>B ((fe b ((kl.mk 0 0 ([]:E Int)):kl)))
def anQ{b}(r)(h:Pp b=B r):ei 160 [dJ 3 kl.cs b,.c (.cY (.func (.func 161) #[] #[]))] [] (.c (d7 3 gv kl.cs r)) [(c9,cW 228 3 r)]:=dc<|dC h λj i h=>cV 8<|sI 10 228 3 kl.cs ((kl.mk 0 0 []):kl) [0,0,2] (d:=[d6 0,c5 0,ia]) (s:=0) (c:=(F b:Int)) i J J J<|eQ 10 h vk (λg=>[]) (λg=>[]) 0 vl (λd=>[]) (λd=>[]) (λg a h=>eI 5 [14] [] h λh=>eo 2 h) λd h=>dj 6 tS<|cJ 1 h
def P4(a:E iw):X (E iw):=O (ej 48 [] (cQ.cL .c_ a)) λb=>B (b)
def aoj{g}(d)(i:P4 g=B d):ei 162 [dJ 34 iw.cs g] [] (.c (d7 34 gv iw.cs d)) [(c9,cW 68 34 d)]:=let j:=68;let b:=34;let k:=iw.cs;qT
def Dm(a:d3):X d3:=O (Dn a.gS) λb=>O (P7 a.dl.jj) λg=>O (P9 a.dl.d8) λi=>O (Jd a.dW) λj=>O (Jf a.g1) λk=>O (Ji a.ex) λl=>O (Ps a.ni) λm=>O (nN a.j9.gA) λo=>O (Pp a.pL) λp=>O (P4 a.oJ) λd=>B ((d3.mk b ({a.dl with jj:=g,d8:=i}) a.dx a.jx a.eA a.ga a.rl a.tw a.o4 j k l m ({a.j9 with gA:=o}) p d))
abbrev Zf:E (Nat×Nat):=[(5,900034),(600000,900035),(600001,900036)]
abbrev YI:E (Nat×Nat):=[(21,900006),(600002,900007),(600003,900008),(600004,900009),(600005,900010),(600006,900011),(600007,900012)]
abbrev YJ:E (Nat×Nat):=[(34,900036),(35,900037),(36,900038),(37,900039),(41,900043),(55,900057),(56,900058),(57,900059),(58,900060),(59,900061),(60,900062),(61,900063),(63,900065),(64,920066),(65,920067),(67,920069),(76,920078),(77,920079)]
abbrev YK:E (Nat×Nat):=[(5,900034),(600000,900035),(600001,900036),(10,900037),(16,900041),(21,900055),(600002,900056),(600003,900057),(600004,900058),(600005,900059),(600006,900060),(600007,900061),(25,900063),(29,920064),(33,920065),(38,920067),(43,920076),(47,920077),(2,2)]
def ab6{a}(r)(h:Dm a=B r):ei 79 [dP d3.cs a] [] (.agg (eT YJ (d3.cs r))) [(oU,cW 49 16 r.gS.m1),(oV,cW 134 34 r.gS.gu),(ob,cW 136 20 r.gS.m0),(oc,cW 171 17 r.dl.jj),(oW,cW 246 6 r.dl.d8),(oX,cW 134 34 r.dW.gu),(tI,cW 375 8 r.dW.eg),(sx,cW 378 38 r.dW.gT),(u2,cW 260 39 r.dW.gX),(u3,cW 264 40 r.dW.hh),(wE,cW 382 40 r.dW.hj),(tJ,cW 397 37 r.dW.gI.fJ),(sy,cW 268 10 r.g1),(920064,cW 183 5 r.ex),(920065,cW 274 3 r.ni),(920067,cW 5 1 r.j9.gA),(920076,cW 228 3 r.pL),(920077,cW 68 34 r.oJ)]:=dc<|dN 9 [] Zf M h ab7 λb h=>dN 8 [] [(10,c9)] M h aoq λg h=>dN 9 [] [(16,c9)] M h aos λi h=>dN 8 [] YI M h anL λj h=>dN 7 [] [(25,c9)] M h anO λk h=>dN 7 [] [(29,c9)] M h anV λl h=>dN 7 [] [(33,c9)] M h anT λm h=>dN 8 [] [(38,c9)] M h s2 λo h=>dN 8 [] [(43,c9)] M h anQ λp h=>dN 7 [] [(47,c9)] M h aoj λd h=>dj 8 (eE [2] YK)<|cJ 1 h
def Pl(a:d3):X d3:=O (Dm a) λb=>B (b)
def anC{a}(r)(h:Pl a=B r):ei 42 [dP d3.cs a] [] (.agg (eT YJ (d3.cs r))) [(oU,cW 49 16 r.gS.m1),(oV,cW 134 34 r.gS.gu),(ob,cW 136 20 r.gS.m0),(oc,cW 171 17 r.dl.jj),(oW,cW 246 6 r.dl.d8),(oX,cW 134 34 r.dW.gu),(tI,cW 375 8 r.dW.eg),(sx,cW 378 38 r.dW.gT),(u2,cW 260 39 r.dW.gX),(u3,cW 264 40 r.dW.hh),(wE,cW 382 40 r.dW.hj),(tJ,cW 397 37 r.dW.gI.fJ),(sy,cW 268 10 r.g1),(920064,cW 183 5 r.ex),(920065,cW 274 3 r.ni),(920067,cW 5 1 r.j9.gA),(920076,cW 228 3 r.pL),(920077,cW 68 34 r.oJ)]:=dc<|dN 8 [] [(4,oU),(c8,oV),(eK,ob),(e8,oc),(g_,oW),(iW,oX),(kP,tI),(mC,sx),(nz,u2),(nA,u3),(nB,wE),(600010,tJ),(600011,sy),(600012,920064),(600013,920065),(600014,920067),(600015,920076),(600016,920077)] M h ab6 λb h=>dj 2 (eE [2] [(4,oU),(c8,oV),(eK,ob),(e8,oc),(g_,oW),(iW,oX),(kP,tI),(mC,sx),(nz,u2),(nA,u3),(nB,wE),(600010,tJ),(600011,sy),(600012,920064),(600013,920065),(600014,920067),(600015,920076),(600016,920077),(2,2)])<|cJ 1 h
def WE(a:E Bool):X (E Bool):=O (ej 1 [] (cQ.cL .c_ a)) λb=>B (b)
def xZ(a:ee):X ee:=O (nN a.f7) λb=>B ({a with f7:=b})
def M8{a}(r)(h:xZ a=B r):ei 80 [dP ee.cs a] [] (.agg (eT [(38,900040)] (ee.cs r))) [(wD,cW 5 1 r.f7)]:=dc<|dN 9 [] [(5,c9)] M h s2 λb h=>dj 8 (eE [2] [(5,wD),(2,2)])<|cJ 1 h
def Df(a:gP):X gP:=O (xZ a.lM) λb=>O (nN a.gA) λd=>B ({a with lM:=b,gA:=d})
def ab4{a}(r)(h:Df a=B r):ei 45 [dP gP.cs a] [] (.agg (eT [(42,900044),(43,900045)] (gP.cs r))) [(900042,cW 5 1 r.lM.f7),(900043,cW 5 1 r.gA)]:=dc<|dN 9 [] [(5,wD)] M h M8 λb h=>dN 7 [] [(9,c9)] M h s2 λd h=>dj 8 (eE [2] [(5,900042),(9,900043),(2,2)])<|cJ 1 h
end
section
attribute [local irreducible] TS go TD goD
def Er(a:E Bool):X (E Bool):=O (ej 1 (f5 (F ([]:E Bool)) ([]:E Bool)) (cQ.cL .c_ a)) λb=>B (b)
def ace{g}(d)(i:Er g=B d):ei 43 [dJ 1 i0 g] [] (.c (.dk c9)) [(c9,d5 4 1 i0 d)]:=let j:=4;let b:=1;let k:=i0;qr
def Cy(a:E Int):X (E Int):=O (ej 1 (f5 (F ([]:E Int)) ([]:E Int)) (cQ.cL .c_ a)) λb=>B (b)
def abV{g}(d)(i:Cy g=B d):ei 44 [dJ 1 (c4 cH) g] [] (.c (.dk c9)) [(c9,d5 5 1 (c4 cH) d)]:=let j:=5;let b:=1;let k:=(c4 cH);qr
def IY(b:eZ)(a:Int×E d3):X ((Int×E d3)⊕((E d3))):=cond (decide (a.1<(F b.fB:Int))) (O (di b.fB a.1) λd=>O (Pl d) λi=>O (ej 600 (f5 (F a.2) a.2) (cQ.cL .c_ ([i]:E d3))) λg=>B (dV (U W (a.1+1),g)))<|B (du a.2)
def IZ(b:eZ)(a:Int×E (E Bool)):X ((Int×E (E Bool))⊕((E (E Bool)))):=cond (decide (a.1<(F b.eg:Int))) (O (di b.eg a.1) λd=>O (Er d) λi=>O (ej 24 (f5 (F a.2) a.2) (cQ.cL .c_ ([i]:E (E Bool)))) λg=>B (dV (U W (a.1+1),g)))<|B (du a.2)
def I0(b:eZ)(a:Int×E gm):X ((Int×E gm)⊕((E gm))):=cond (decide (a.1<(F b.hg:Int))) (O (di b.hg a.1) λd=>O (nN d.Bytes) λi=>O (ej 40 (f5 (F a.2) a.2) (cQ.cL .c_ ([{d with Bytes:=i}]:E gm))) λg=>B (dV (U W (a.1+1),g)))<|B (du a.2)
def I1(b:eZ)(a:Int×E gK):X ((Int×E gK)⊕((E gK))):=cond (decide (a.1<(F b.fI:Int))) (O (di b.fI a.1) λd=>O (Df d.hC) λi=>O (ej 152 (f5 (F a.2) a.2) (cQ.cL .c_ ([{d with hC:=i}]:E gK))) λg=>B (dV (U W (a.1+1),g)))<|B (du a.2)
def z_(a:eZ):X i4:=O (dq (IY a) (0,([]:E d3))) λg=>O (dq (IZ a) (0,([]:E (E Bool)))) λb=>O (Er a.hU) λj=>O (dq (I0 a) (0,([]:E gm))) λd=>O (Cy a.jr) λk=>O (dq (I1 a) (0,([]:E gK))) λi=>B ((i4.mk (eZ.mk a.fg g b j d k i)))
def ab3{q}(r)(h:z_ q=B r):ei 26 [dP eZ.cs q] [] (.agg [c5 r.eC.fg,.dk ng,.dk gv,.dk mD,.dk j4,.dk u1,.dk mj]) [(ng,d5 120 78 d3.cs r.eC.fB),(gv,Gu 28 4 gR r.eC.eg),(mD,d5 4 1 i0 r.eC.hU),(j4,d5 139 3 gm.cs r.eC.hg),(u1,d5 5 1 (c4 cH) r.eC.jr),(mj,d5 79 47 gK.cs r.eC.fI)]:=dc<|cV 23<|oh 3 1 c8 120 78 J<|eQ 0 h (cX [1,2,3,17,18,19] [1,2,3,c8]) (λd=>[(19,cS d.1)]) (λd=>[(c8,d5 120 78 d3.cs d.2)]) 0 (cX [1,2,3] [1,2,3,c8]) (λl=>[]) (λl=>[(c8,d5 120 78 d3.cs l)]) (λd a h=>c7 5 [20] [] h (λh=>e5 5 d3.cs h λQ h=>dK 4 4<|dC h λs y h=>let p:=yK;pN [] ((qo [p] anC) s y) J J<|o5 28 120 78 d3.cs p ([s]:E d3) J J<|w2 0 c8 120 78 d3.cs h λN h=>dG 3 5<|ey 0 h) λh=>eo 2 h) λl h=>cV 10<|aiu 3 2 eK 28 4 J<|eQ 0 h (cX [1,2,3,34,35,36] [1,2,3,c8,eK]) (λb=>[(36,cS b.1)]) (λb=>[(eK,Gu 28 4 gR b.2)]) 2 (cX [1,2,3] [1,2,3,c8,eK]) (λj=>[]) (λj=>[(eK,Gu 28 4 gR j)]) (λb a h=>c7 5 [37] [] h (λh=>e5 5 (jK 1 i0) h λP h=>dK 3 4<|jf 44 c9 0 [] h ace λo h=>ah5 45 44 28 4 (F o) i0 gR o (λ_=>rfl) J J<|i7 J<|dC h λC x h=>aic eK 45 28 4 (jv gR) (a:=b.2) (b:=([o]:E (E Bool))) x J J J J J<|ey 9 h) λh=>eo 2 h) λj h=>dN 5 [] [(52,c9)] M h ace λS h=>cV 13<|oh 3 4 e8 139 3 J<|eQ 0 h (cX [1,2,3,56,57,58] [1,2,3,c8,eK,52,e8]) (λg=>[(58,cS g.1)]) (λg=>[(e8,d5 139 3 gm.cs g.2)]) 4 (cX [1,2,3] [1,2,3,c8,eK,52,e8]) (λk=>[]) (λk=>[(e8,d5 139 3 gm.cs k)]) (λg a h=>c7 5 [59] [] h (λh=>e5 5 gm.cs h λt h=>dN 8 [] [(64,c9)] M h s2 λz h=>i1 8 70 139 3 gm.cs [0,0,2] ([{t with Bytes:=z}]:E gm)<|o9 0 e8 139 3 gm.cs h λD h=>ey 9 h) λh=>eo 2 h) λk h=>dN 5 [] [(77,c9)] M h abV λaa h=>cV 13<|oh 3 6 g_ 79 47 J<|eQ 0 h (cX [2,3,81,82,83] [2,3,c8,eK,52,e8,77,g_]) (λi=>[(83,cS i.1)]) (λi=>[(g_,d5 79 47 gK.cs i.2)]) 6 (cX [2,3] [2,3,c8,eK,52,e8,77,g_]) (λm=>[]) (λm=>[(g_,d5 79 47 gK.cs m)]) (λi a h=>c7 5 [84] [] h (λh=>e5 5 gK.cs h λu h=>dN 8 [] [(89,900042),(iW,900043)] M h ab4 λA h=>i1 8 95 79 47 gK.cs (l0 44 [2,2]) ([{u with hC:=A}]:E gK)<|o9 0 g_ 79 47 gK.cs h λK h=>ey 9 h) λh=>eo 2 h) λm h=>dj 6 (eE [2] [(c8,ng),(eK,gv),(52,mD),(e8,j4),(77,u1),(g_,mj),(2,2)])<|cJ 1 h
def I9(a:d3)(d g:Int):X (d3×Int):=O (uQ a) λi=>cond i (O (Aa a.gS d g a.dl.h3 a.j9) λb=>B ((b.1,b.2))) M
def anE{a b d}(r)(h:I9 a b d=B r):ei 50 [dP d3.cs a,cS b,qn d] [] (.eu [(T,(eT Zn (d3.cs r.1))),(Z,[c5 r.2])]) [(oc,cW 171 17 r.1.dl.jj),(oW,cW 246 6 r.1.dl.d8),(oX,cW 134 34 r.1.dW.gu),(920067,cW 5 1 r.1.j9.gA)]:=dc<|hu 10 [] 2 h BU λh=>dN 12 [] [(21,oc),(c8,oW),(eK,oX),(e8,920067)] M h ab5 λg h=>dj 5 (eE [6,7] [(21,oc),(c8,oW),(eK,oX),(e8,920067),(6,6)])<|cJ 1 h
def Jb(a:d3)(b:Int):X (d3×Int):=O (uQ a) λd=>cond d (O (sp b) λg=>cond g (O (Dm a) λi=>O (tz b 16) λj=>B (({i with dW.gH:=j,dW.gX:=[],dW.hh:=[],dW.hj:=[]},0))) M) M
def anI{a b}(r)(h:Jb a b=B r):ei 51 [dP d3.cs a,cS b] [] (.eu [(T,(eT [(34,ob),(35,oc),(36,wD),(37,900039),(41,900043),(55,sx),(56,u2),(57,u3),(61,sy),(63,900065),(64,920066),(65,920067),(67,920069),(76,920078),(77,920079)] (d3.cs r.1))),(Z,[c5 r.2])]) [(oU,cW 49 16 r.1.gS.m1),(oV,cW 134 34 r.1.gS.gu),(ob,cW 136 20 r.1.gS.m0),(oc,cW 171 17 r.1.dl.jj),(oW,cW 246 6 r.1.dl.d8),(oX,cW 134 34 r.1.dW.gu),(tI,cW 375 8 r.1.dW.eg),(sx,cW 378 38 r.1.dW.gT),(tJ,cW 397 37 r.1.dW.gI.fJ),(sy,cW 268 10 r.1.g1),(920064,cW 183 5 r.1.ex),(920065,cW 274 3 r.1.ni),(920067,cW 5 1 r.1.j9.gA),(920076,cW 228 3 r.1.pL),(920077,cW 68 34 r.1.oJ)]:=dc<|hu 10 [] 2 h BU λh=>hu 5 [] 2 h xd λh=>dN 4 [] [(15,oU),(c8,oV),(eK,ob),(e8,oc),(g_,oW),(iW,oX),(kP,tI),(mC,sx),(nz,u2),(nA,u3),(nB,wE),(600010,tJ),(600011,sy),(600012,920064),(600013,920065),(600014,920067),(600015,920076),(600016,920077)] M h ab6 λd h=>db 23 h GW λg h=>dj 10 (eE [4,5] [(15,oU),(c8,oV),(eK,ob),(e8,oc),(g_,oW),(iW,oX),(kP,tI),(mC,sx),(600010,tJ),(600011,sy),(600012,920064),(600013,920065),(600014,920067),(600015,920076),(600016,920077),(4,4)])<|cJ 1 h
def tA(a:ee):X Int:=cond (a.Next==17) (B (U W (48+(F a.f7:Int))))<|B (U W (40+(F a.f7:Int)))
def Nj{a}(r)(h:tA a=B r):dX 204 [dP ee.cs a] ((cS r)):=dc<|c7 12 [5] [] h (λh=>cJ 10 h) λh=>cJ 10 h
def ws(a:ee):X Bool:=cond (decide (a.ij>1048575)) M<|O (uG a.dU) λb=>cond b M<|O (tA a) λd=>cond (decide (d>1280)) M<|cond (a.Next==17) (B (T))<|cond (a.j_==0) (B ((a.gM==0))) M
def To{a}(r)(h:ws a=B r):dX 99 [dP ee.cs a] ((e4 r)):=dc<|gF 12 [5,6] [] h λh=>db 2 h GP λb h=>lg h λak G=>by subst ak;exact db 3 G Nj λd G=>eI 3 [14,15] [] G λG=>gp 7 [18,19] [] G (λG=>cJ 12 G) λG=>hW 4 [22,23] [] G λG=>cJ 8 G
def agj(b:E (E Int))(d:E Int)(a:Int):X (Int⊕(Unit⊕Int)):=cond (decide (a<(F b:Int))) (O (di b a) λg=>cond (nn 16 d g) (B (du (du a)))<|B (dV (U W (a+1))))<|B (du (dV ()))
def WG(a:E (E Int))(b:E Int):X Int:=(dq (agj a b) 0).bind (ku (λg=>B ((-1))) (λd=>B d))
def ap6{d g}(r)(h:WG d g=B r):dX 382 [dJ 16 (ek cH 16) d,.agg (ek cH 16 g)] ((cS r)):=dc<|lY 13 h (cX [0,3,7,8] [3]) (λb=>[(8,cS b)]) (λb=>[]) 0 iR (λi=>[]) (λi=>[]) (λm j b a h k=>c7 5 [9] [] h (λh=>dK 9 3<|hE 0 (ek cH 16) h λl h=>dG 2 0<|c7 0 [16] [] h (λh=>iB 8 h k j λh=>cJ 2 h) λh=>ey 6 h) λh=>eo 2 h) λi h=>cJ 6 h
def wA(a:E (E Int))(b:E Int):X Bool:=O (WG a b) λd=>B ((decide (d>=0)))
def apU{a b}(r)(h:wA a b=B r):dX 297 [dJ 16 (ek cH 16) a,.agg (ek cH 16 b)] ((e4 r)):=dc<|db 9 h ap6 λd h=>cJ 4 h
def Du(a:fs)(b:E Int):X Bool:=O (wA a.n.gS.m1 b) λd=>B (d)
def q0(e:fs):Nat×eD:=(1000000,.box (eT [(80,700013),(81,700014)] (gw [(64,.dk 700013)] (fs.cs ({e with n.ex:=([]:E es)})))))
def F6(e:fP):Nat×eD:=(1000000,.box (eT [(16,700013),(17,700014)] (gw [(7,.dk 700013)] (fP.cs ({e with r.eg:=([]:E fh)})))))
def iU(e:fs):fK:=[(1000000,.box (eT [(80,700013),(81,700014)] (gw [(64,.dk 700013)] (fs.cs ({e with n.ex:=([]:E es)}))))),(700011,cW 30 1 e.eL),(700012,cW 77 45 e.im),(700013,d5 183 5 es.cs e.n.ex)]
def hS(e:fP):fK:=[(1000000,.box (eT [(16,700013),(17,700014)] (gw [(7,.dk 700013)] (fP.cs ({e with r.eg:=([]:E fh)}))))),(700011,cW 438 40 e.all),(700012,cW 332 2 e.ic),(700013,d5 375 8 fh.cs e.r.eg)]
def acQ{a b}(r)(h:Du a b=B r):ei 205 [eO df,.agg (ek cH 16 b)] (iU a) ((e4 r)) (iU a):=dc<|dK 6 7<|i7 J<|db 0 h apU λd h=>cJ 3 h
def Pw(b:fs)(a:l7)(d:ee):X (E gP):=O (xZ d) λi=>O (ej 136 b.im (cQ.cL .c_ ([(gP.mk 1 a.oY a.ga 0 i [] 0)]:E gP))) λg=>B (g)
abbrev LR:=l0 42 [2,2]
def ao_{a b d}(r)(h:Pw a b d=B r):ei 207 [eO df,dP l7.cs b,dP ee.cs d] (iU a) (.eu []) (iU ({a with im:=r})):=dc<|cV 5<|nU<|dK 0 10<|jf 16 wD 0 [] h M8 λi h=>fa 1<|pR 18 77 45 gP.cs LR 0 fY h λg h=>dG 3 1<|cJ 0 h
def Pf(a:Int):X Bool:=cond (decide (a>=0)) (B ((decide (a<=1099511627776)))) M
def ao2{a}(r)(h:Pf a=B r):dX 146 [cS a] ((e4 r)):=dc<|hW 9 [4,5] [] h λh=>cJ 6 h
def V4(a:E iw)(b:Unit):X (Unit⊕Unit):=cond (decide (0<(F a:Int))) M<|B (du ())
def IR(a:E iw)(b:Int)(i:E Int):X (E Int×Bool):=O (Db a) λd=>cond d (O (Pf b) λg=>cond g (O (dq (V4 a) ()) λj=>B ((eP,Z))) M) M
def ao1{b d g}(r)(h:IR b d g=B r):dX 208 [dJ 34 iw.cs b,cS d,.agg (ek cH 16 g)] (.eu [(T,ek cH 16 r.1),(Z,[gR r.2])]):=dc<|db 10 h acK λk h=>eX h λaJ G=>by subst aJ;exact hu 3 [] 3 G ao2 λG=>eQ 9 G (cX [1,5,6,19,20,21] [5,6]) (λj=>[]) (λj=>[]) 0 (cX [6] [6]) (λi=>[]) (λi=>[]) (λj a G=>eI 5 [22] [] G λG=>eo 2 G) λi G=>cJ 8 G
def p_(a:eW)(b:E Int):X Bool:=O (sl a) λd=>cond d (O (rm b a.fu) λg=>B ((eW.fV g a))) M
def GO{a b}(r)(h:p_ a b=B r):dX 301 [dP eW.cs a,.agg (ek cH 16 b)] ((e4 r)):=dc<|dK 7 1<|d0 0 h zj λd h=>eX h λaJ G=>by subst aJ;exact d0 4 G GQ λg G=>dG 4 1<|cJ 0 G
def DW(a:c0)(b g:E Int):X Bool:=O (p_ a.ed b) λd=>cond d M<|B (Z)
def ac7{a b d}(r)(h:DW a b d=B r):dX 300 [dP c0.cs a,.c (.e1 (ek cH 16 b)),.c (.e1 (ek cH 16 d))] ((e4 r)):=dc<|db 10 h GO λg h=>lg h λaJ G=>by subst aJ;exact cJ 9 G
def Kr(a b:c0):X Int:=O (zS a.ed.fu b.ed.fu) λd=>O (zS a.dU.fu b.dU.fu) λg=>O (wc ([d,g]:E Int)) λi=>B (i)
def apE{a b}(r)(h:Kr a b=B r):dX 386 [dP c0.cs a,dP c0.cs b] ((cS r)):=dc<|dK 7 6<|d0 0 h GR λd h=>fa 6<|i7 J<|db 0 h GR λg h=>i1 0 19 3 1 (c4 W) [] ([d,g]:E Int)<|nF 0 [[2]] h GS λi h=>cJ 3 h
def PM(a:dH)(b:c0):X Bool:=B ((c0.fV a.c3 b))
def apD{a b}(r)(h:PM a b=B r):dX 387 [dP dH.cs a,.c (.e1 (c0.cs b))] ((e4 r)):=dc<|cJ 14 h
def Qe(b:E dH)(d:c0)(a:Int):X (Int⊕(Unit⊕Int)):=cond (decide (a<(F b:Int))) (O (di b a) λg=>O (PM g d) λi=>cond i (B (du (du a)))<|B (dV (U W (a+1))))<|B (du (dV ()))
def KN(a:E dH)(b:c0):X Int:=(dq (Qe a b) 0).bind (ku (λd=>B ((-1))) (λlZ=>B lZ))
def apZ{d g}(r)(h:KN d g=B r):dX 241 [dJ 40 dH.cs d,.c (.gf 387 [.e1 (c0.cs g)])] ((cS r)):=dc<|lY 12 h tR (λb=>[(8,cS b)]) (λb=>[]) 0 iR (λi=>[]) (λi=>[]) (λm j b a h k=>c7 5 [9] [] h (λh=>e5 13 dH.cs h λl h=>ha 1 [] 1 h apD (λh=>iB 8 h k j λh=>cJ 2 h) λh=>ey 6 h) λh=>eo 2 h) λi h=>cJ 6 h
def Ee(a:(E dH)×Int)(b:E dH):X ((E dH×Int)⊕((E dH))):=B (dV (b,U W (a.2+1)))
def PN(d:E dH)(i g:E Int)(a:(E dH)×Int):X ((E dH×Int)⊕((E dH))):=cond (decide (a.2<(F d:Int))) (O (di d a.2) λb=>O (p_ b.c3.ed i) λk=>cond k (O (p_ b.c3.dU g) λl=>cond l (cond (decide ((F a.1:Int)>0)) M<|cond ((F a.1:Int)==0) (O (ej 96 a.1 (cQ.cL .c_ ([b]:E dH))) λj=>(Ee a) j) M)<|(Ee a) a.1)<|(Ee a) a.1)<|B (du a.1)
def Av(a:dH):X (dH×Int):=O (qD a) λb=>cond b (B ((a,0)))<|B (((dH.mk (c0.mk (eW.mk eP 0) (eW.mk eP 0) 0) 0 (e2.mk 0 0) 0 0),15))
def age(b:E dH)(d:dH)(a:Int):X (Int⊕Unit):=cond (decide (a<(F b:Int))) (O (di b a) λg=>cond (decide (g.fU.ff<d.fU.ff)) M<|B (dV (U W (a+1))))<|B (du ())
def agf(b:E dH)(d:dH)(a:Int):X (Int⊕Unit):=cond (decide (a<(F b:Int))) (O (di b a) λg=>cond (decide (g.fU.ff<d.fU.ff)) M<|B (dV (U W (a+1))))<|B (du ())
def Ef(a:(E dH)×Int)(b:E dH):X ((E dH×Int)⊕((E dH))):=B (dV (b,U W (a.2+1)))
def PO(d:E dH)(i g:E Int)(a:(E dH)×Int):X ((E dH×Int)⊕((E dH))):=cond (decide (a.2<(F d:Int))) (O (di d a.2) λb=>O (p_ b.c3.ed i) λk=>cond k (O (p_ b.c3.dU g) λl=>cond l (cond (decide ((F a.1:Int)>0)) M<|cond ((F a.1:Int)==0) (O (ej 96 a.1 (cQ.cL .c_ ([b]:E dH))) λj=>(Ef a) j) M)<|(Ef a) a.1)<|(Ef a) a.1)<|B (du a.1)
def PP(b:E dH)(d:dH)(a:Int):X (Int⊕Unit):=cond (decide (a<(F b:Int))) (O (di b a) λg=>cond (decide (g.fU.ff<d.fU.ff)) M<|B (dV (U W (a+1))))<|B (du ())
def Ed(g:E dH)(k l:E Int)(b:c0)(o:Bool):X (dH×Int):=O (yd g) λu=>cond u (cond o (O (ne b) λy=>cond y (O (dq (PN g l k) (([]:E dH),0)) λa=>cond ((F a:Int)==0) (B (((dH.mk (c0.mk (eW.mk eP 0) (eW.mk eP 0) 0) 0 (e2.mk 0 0) 0 0),9)))<|O (di a 0) λp=>O (Kr p.c3 b) λx=>cond (decide (x<0)) (B (((dH.mk (c0.mk (eW.mk eP 0) (eW.mk eP 0) 0) 0 (e2.mk 0 0) 0 0),9)))<|O (di a 0) λd=>O (di a 0) λq=>cond (eW.fV q.c3.ed b.ed) (O (di a 0) λs=>cond (eW.fV s.c3.dU b.dU) (O (KN a b) λm=>cond (decide (m<0)) M<|O (di a m) λt=>(Av) t)<|O (dq (age a d) 0) λA=>(Av) d)<|O (dq (agf a d) 0) λC=>(Av) d) M)<|O (dq (PO g l k) (([]:E dH),0)) λi=>cond ((F i:Int)==0) (B (((dH.mk (c0.mk (eW.mk eP 0) (eW.mk eP 0) 0) 0 (e2.mk 0 0) 0 0),9)))<|O (di i 0) λj=>O (dq (PP i j) 0) λD=>O (qD j) λz=>cond z (B ((j,0)))<|B (((dH.mk (c0.mk (eW.mk eP 0) (eW.mk eP 0) 0) 0 (e2.mk 0 0) 0 0),15))) M
abbrev LK:=cX [10,15] [10,15]
abbrev Rv:=cX [10,15,132,133,134] [10,15,600000]
abbrev Re:=cX [4,6,7,8,10,12,31,32,33] [6,7,10,600000]
def ade{P Q S aa ab}(r)(h:Ed P Q S aa ab=B r):dX 304 [dJ 40 dH.cs P,.agg (ek cH 16 Q),.agg (ek cH 16 S),dP c0.cs aa,e4 ab] (.eu [(T,dH.cs r.1),(Z,[c5 r.2])]):=dc<|lQ 4<|db 7 h Np λaC h=>eX h λaJ G=>by subst aJ;exact eN G (λak b=>by subst ak;exact hu 5 [] 4 b pm λb=>f9 13 12 c8 264 40<|let N:=Re;eQ 0 b N (λm=>[(12,.c<|d7 40 e8 dH.cs m.1),(33,cS m.2)]) (λm=>[(c8,cW 264 40 m.1)]) 0 (cX [4,8,10,12] [10,c8]) (λs=>[(12,.c<|d7 40 e8 dH.cs s)]) (λs=>[(c8,cW 264 40 s)]) (λm a b=>c7 5 [34] [] b (λb=>fR 1 N (λt=>[(12,.c<|d7 40 e8 dH.cs t)]) (λt=>[(c8,cW 264 40 t)]) (Ee m) a (λt b=>ey 4 b)<|e5 3 dH.cs b λau b=>db 11 b GO λaD b=>eN b (λx g=>by subst x;exact ha 6 [] 3 g GO (λg=>dK 3 3<|lg g λai g=>fc 0 ai<|dG 9 0<|dt 0<|dK 2 3<|eX g λaj g=>fc 0 aj<|dG 9 0<|dt 0<|jL 3 79 264 40 dH.cs [] 0 c8 g λaA g=>dQ 3 g) λg=>dQ 3 g) λx ag=>by subst x;exact dt 10<|dQ 3 ag) λb=>eo 2 b) λs b=>dK 3 3<|eN b (λo b=>fc 0 o<|dG 11 0<|dt 0<|cJ 8 b) λo b=>fc 0 o<|hE 3 dH.cs b λav b=>fa 3<|i7 J<|db 0 b apE λaE b=>eN b (λj b=>dF 4 84 o<|dF 0 94 j<|dF 0 95 j<|dF 0 96 j<|dt 0<|cJ 8 b) λj b=>dF 4 84 o<|dF 0 94 j<|dF 0 95 j<|dF 0 96 j<|dt 0<|e5 4 dH.cs b λaw b=>fR 4 LK (λK=>[]) (λK=>[(15,.box<|dH.cs K)]) (Av) r (λK b=>ha 4 [] 2 b BW (λb=>cJ 8 b) λb=>cJ 8 b)<|dK 1 3<|hE 0 dH.cs b λan b=>eN b (λk b=>fc 7 k<|hE 1 dH.cs b λao b=>dG 7 0<|eN b (λp b=>dF 0 110 k<|dF 0 111 k<|dF 0 120 p<|dF 0 121 p<|dt 0<|k0 3<|nF 0 [[41]] b apZ λaF b=>eI 8 [126] [] b λb=>e5 4 dH.cs b λax b=>dQ 3 b) λp b=>dF 0 110 k<|dF 0 111 k<|dF 0 120 p<|dF 0 121 p<|dt 0<|eQ 7 b Rv (λA=>[(134,cS A)]) (λA=>[]) 2 LK (λad=>[]) (λad=>[]) (λA a b=>c7 5 [135] [] b (λb=>e5 5 dH.cs b λap b=>eI 14 [144] [] b λb=>ey 6 b) λb=>eo 2 b) λad b=>dQ 1 b) λk b=>fc 7 k<|dG 9 0<|dt 0<|eQ 7 b Rv (λC=>[(134,cS C)]) (λC=>[]) 2 LK (λae=>[]) (λae=>[]) (λC a b=>c7 5 [135] [] b (λb=>e5 5 dH.cs b λaq b=>eI 14 [144] [] b λb=>ey 6 b) λb=>eo 2 b) λae b=>dQ 1 b) λak d=>by subst ak;exact dt 10<|f9 13 12 c8 264 40<|eQ 0 d Re (λl=>[(12,.c<|d7 40 e8 dH.cs l.1),(33,cS l.2)]) (λl=>[(c8,cW 264 40 l.1)]) 0 (cX [4,8,10,12] [10,c8]) (λq=>[(12,.c<|d7 40 e8 dH.cs q)]) (λq=>[(c8,cW 264 40 q)]) (λl a d=>c7 5 [34] [] d (λd=>fR 1 Re (λu=>[(12,.c<|d7 40 e8 dH.cs u)]) (λu=>[(c8,cW 264 40 u)]) (Ef l) a (λu d=>ey 4 d)<|e5 3 dH.cs d λay d=>db 11 d GO λaG d=>eN d (λy i=>by subst y;exact ha 6 [] 3 i GO (λi=>dK 3 3<|lg i λal i=>fc 0 al<|dG 9 0<|dt 0<|dK 2 3<|eX i λam i=>fc 0 am<|dG 9 0<|dt 0<|jL 3 79 264 40 dH.cs [] 0 c8 i λaB i=>dQ 3 i) λi=>dQ 3 i) λy ah=>by subst y;exact dt 10<|dQ 3 ah) λd=>eo 2 d) λq d=>dK 3 3<|eN d (λz d=>fc 0 z<|dG 11 0<|dt 0<|cJ 8 d) λz d=>fc 0 z<|dG 11 0<|dt 0<|e5 4 dH.cs d λaz d=>dK 6 21<|dG 0 0<|dt 0<|eQ 7 d Rv (λD=>[(134,cS D)]) (λD=>[]) 2 LK (λaf=>[]) (λaf=>[]) (λD a d=>c7 5 [135] [] d (λd=>e5 5 dH.cs d λar d=>eI 14 [144] [] d λd=>ey 6 d) λd=>eo 2 d) λaf d=>ha 5 [] 2 d BW (λd=>cJ 8 d) λd=>cJ 8 d
def PB(a:fH)(g d:E Int)(b:Int):X (Int⊕Unit):=cond (decide (b<(F a.gu:Int))) (O (di a.gu b) λi=>O (tB a.hr i) λj=>O (DW j g d) λk=>cond k M<|B (dV (U W (b+1))))<|B (du ())
def PC(a:fH)(g d:E Int)(b:Int):X (Int⊕Unit):=cond (decide (b<(F a.gu:Int))) (O (di a.gu b) λi=>O (tB a.hr i) λj=>O (DW j g d) λk=>cond k M<|B (dV (U W (b+1))))<|B (du ())
def JQ(a:fH)(b:Int)(d g:E Int)(k:c0)(l:Bool):X (Int×c0×Int):=O (x5 a) λm=>cond m (cond l (O (ne k) λp=>cond p (O (qa b) λq=>cond q (cond (decide (b<a.gH)) M<|O (dq (PB a g d) 0) λs=>cond (0==0) (O (Ed a.hh d g k T) λi=>cond (i.2 !=0) (B ((0,(c0.mk (eW.mk eP 0) (eW.mk eP 0) 0),i.2)))<|B ((i.1.eb,i.1.c3,0))) M) M) M)<|O (qa b) λo=>cond o (cond (decide (b<a.gH)) M<|O (dq (PC a g d) 0) λt=>cond (0==0) (O (Ed a.hh d g k Z) λj=>cond (j.2 !=0) (B ((0,(c0.mk (eW.mk eP 0) (eW.mk eP 0) 0),j.2)))<|B ((j.1.eb,j.1.c3,0))) M) M) M
abbrev Zm:=cX [5,6,8,9,10,13,15,16] [6,10,13,15,16]
abbrev Yy:=cX [5,6,8,9,10,13,15,16,46,47,48] [6,10,13,15,16]
def apo{j k l m o p}(r)(h:JQ j k l m o p=B r):dX 212 [dP fH.cs j,cS k,.agg (ek cH 16 l),.agg (ek cH 16 m),dP c0.cs o,e4 p] (.eu [(Z,[d6 r.1]),(T,c0.cs r.2.1),(Z,[c5 r.2.2])]):=dc<|lQ 3<|lQ 0<|db 9 h Nm λC h=>eX h λaJ G=>by subst aJ;exact eN G (λak b=>by subst ak;exact hu 5 [] 4 b pm λb=>hu 5 [] 2 b s3 λb=>eI 9 [42] [] b λb=>k0 3<|eQ 16 b Yy (λi=>[(48,cS i)]) (λi=>[]) 0 Zm (λq=>[]) (λq=>[]) (λi a b=>c7 5 [49] [] b (λb=>e5 5 gl.cs b λz b=>db 9 b GY λD b=>db 7 b ac7 λK b=>lg b λx t=>by subst x;exact dt 12<|ey 6 t) λb=>eo 2 b) λq b=>k0 3<|hW 9 [75,76] [] b λb=>dt 6<|db 8 b ade λN b=>c7 13 [93] [] b (λb=>cJ 11 b) λb=>dK 2 7<|dG 0 2<|cJ 0 b) λak d=>by subst ak;exact dt 10<|hu 5 [] 2 d s3 λd=>eI 9 [42] [] d λd=>k0 3<|eQ 16 d Yy (λg=>[(48,cS g)]) (λg=>[]) 0 Zm (λs=>[]) (λs=>[]) (λg a d=>c7 5 [49] [] d (λd=>e5 5 gl.cs d λA d=>db 9 d GY λP d=>db 7 d ac7 λQ d=>lg d λy u=>by subst y;exact dt 12<|ey 6 u) λd=>eo 2 d) λs d=>k0 3<|hW 9 [75,76] [] d λd=>dt 6<|db 8 d ade λS d=>c7 13 [93] [] d (λd=>cJ 11 d) λd=>dK 2 7<|dG 0 2<|cJ 0 d
def nO(a:Int):X fj:=B ((fj.mk 3 0 a))
def vR{a}(r)(h:nO a=B r):dX 82 [.c (d6 a)] ((dP fj.cs r)):=dc<|cJ 11 h
def CT(b d:fj)(g:E gj)(a:Int):X Int:=O (tx b) λi=>cond i (O (tx d) λj=>cond j (O (zU g) λk=>cond k (cond (decide (a<0)) M<|cond (decide (a>1099511627776)) M<|B (0)) M) M) M
def acv{b d g i}(r)(h:CT b d g i=B r):dX 402 [dP fj.cs b,dP fj.cs d,dJ 20 gj.cs g,cS i] ((cS r)):=dc<|db 10 h zi λj h=>eX h λaJ G=>by subst aJ;exact db 3 G zi λk G=>eX G λx a=>by subst x;exact hu 4 [] 3 a Nd λa=>gF 7 [23,24] [] a λa=>eI 4 [26,27] [] a λa=>cJ 6 a
def Jy(d:Int)(b:E Int)(g:Int)(a:Int×E Int):X ((Int×E Int)⊕((E Int))):=cond (decide (a.1<d)) (cond (decide (0<=(U W (8*(U W ((U W (d-1))-a.1)))))) (O (di (cQ.cL .c_ a.2) (U W ((F b:Int)+a.1))) λj=>O (a.2[(0+cM (U W ((F b:Int)+a.1)))]?) λi=>B (dV (U W (a.1+1),(ir a.2 (0+cM (U W ((F b:Int)+a.1))) (U cH (gh cZ g (U W (8*(U W ((U W (d-1))-a.1)))))))))) M)<|B (du a.2)
def hy(b:E Int)(g a:Int):X (E Int):=cond (decide (a<0)) M<|cond (decide (a>8)) M<|O (h4 1 (U W ((F b:Int)+a)) (U W ((F b:Int)+a))) λd=>O (dq (Jy a b g) (0,(k5 (fe d (0:Int)) 0 (F (cQ.cL .c_ (fe d (0:Int)))) (cQ.cL .c_ b)))) λi=>B (i)
def ib{d i g}(r)(h:hy d i g=B r):ei 186 [dJ 1 (c4 cH) d,.c (d6 i),cS g] [] (.c (d7 1 gv (c4 cH) r)) [(c9,cW 5 1 r)]:=dc<|gF 10 [10,11] [] h λh=>eI 4 [13,14] [] h λh=>dC h λm s h=>cV 7<|qI 19 5 1 (c4 cH) (0:Int) [] (d:=[da 0]) (s:=U W<|(F d:Int)+g) (c:=U W<|(F d:Int)+g) s J J J<|cV 6<|yH 19 5 1 (F<|fe m (0:Int)) 0 (c4 cH) gs (s:=(fe m (0:Int))) (d:=d) .c_ .c_ J J<|eQ 8 h (cX [0,1,2,7,23,24] [19]) (λb=>[(24,cS b.1)]) (λb=>[(19,d5 5 1 (c4 cH) b.2)]) 0 (cX [7] [19]) (λj=>[]) (λj=>[(19,d5 5 1 (c4 cH) j)]) (λb a h=>c7 5 [25] [] h (λh=>eX h λo h=>cV 20<|let k:=(8*(U W<|(U W<|g-1)-b.1));o7 (op:=.shr) (g:=cZ) (b:=W) (A:=i) (j:=U W k) (f8 o) rfl dh J J<|dC h λu q h=>cV 1<|kz 19 1 0 (c4 cH) .c_ q J J<|dC h λt p h=>let l:=(U cH<|gh cZ i<|U W k);nE 19 5 1 (F b.2) (0+cM (U W<|(F d:Int)+b.1)) 0 (c4 cH) (b:=[da l]) l p J J J J<|ey 6 h) λh=>eo 2 h) λj h=>dD 6 19<|dj 0 (eE [6] [(19,c9)])<|cJ 1 h
def wh(a:Bool)(b:Int):X Int:=cond a (B (b))<|B (0)
def GU{a d}(r)(h:wh a d=B r):dX 442 [e4 a,cS d] ((cS r)):=dc<|eN h (λa1 G=>agy) λa1 b=>agz
def xV(b:ee)(d:(E Int)×Int)(a:(E Int)×Int):X (Int×E Int):=O (wh (b.Next==17) 4) λg=>B ((U W ((U W ((U W (96+(U W (8*d.2))))+g))+a.2),a.1))
def CU(a:ee)(b:(E Int)×Int)(d:E Int):X (Int×E Int):=cond (a.e3==1) ((xV a b) (d,1))<|cond (a.e3==64) ((xV a b) (d,2))<|cond (a.e3==255) ((xV a b) (d,3))<|O (ej 1 d (cQ.cL .c_ ([a.e3]:E Int))) λg=>(xV a b) (g,0)
def xU(a:ee)(b:(E Int)×Int):X (Int×E Int):=cond (a.Next !=17) (O (ej 1 b.1 (cQ.cL .c_ ([a.Next]:E Int))) λd=>(CU a b) d)<|(CU a b) b.1
def Iv(a:ee):X (Int×E Int):=cond (a.ig !=0) (cond (a.ij !=0) (O (hy ([a.ig]:E Int) (U cZ a.ij) 3) λb=>(xU a) (b,0))<|(xU a) (([a.ig]:E Int),2))<|cond (a.ij !=0) (O (hy [] (U cZ a.ij) 3) λd=>(xU a) (d,1))<|(xU a) (([]:E Int),3)
def anr{a}(r)(h:Iv a=B r):ei 439 [dP ee.cs a] [] (.eu [(Z,[c5 r.1]),(Z,[d7 1 sA (c4 cH) r.2])]) [(k4,cW 5 1 r.2)]:=dc<|f9 14 4 c8 5 1<|fR 0 (cX [1,4,5] [1,c8]) (λb=>[(4,.c<|d7 1 e8 (c4 cH) b.1),(5,cS b.2)]) (λb=>[(c8,cW 5 1 b.1)]) (xU a) r (λb h=>fR 0 (cX [1,4,5] [1,c8]) (λg=>[(4,.c<|d7 1 e8 (c4 cH) g)]) (λg=>[(c8,cW 5 1 g)]) (CU a b) r (λg h=>fR 4 (cX [1,4,5,6] [1,c8]) (λd=>[(4,.c<|d7 1 e8 (c4 cH) d.1),(6,cS d.2)]) (λd=>[(c8,cW 5 1 d.1)]) (xV a b) r (λd h=>db 8 h GU λp h=>dj 7 (eE [2,3] [(c8,k4)])<|cJ 1 h)<|c7 11 [54,53] [] h (λh=>dQ 4 h) λh=>c7 5 [56,55] [] h (λh=>dQ 4 h) λh=>c7 5 [58,57] [] h (λh=>dQ 4 h) λh=>jL 4 51 5 1 (c4 cH) [] 0 c8 h λl h=>dQ 3 h)<|c7 6 [40] [] h (λh=>jL 4 44 5 1 (c4 cH) [] 0 c8 h λk h=>dQ 2 h) λh=>dQ 1 h)<|vH 7 [10,11] [] h (λi h=>aaY 6 [14,15,7] [] h (λj h=>i1 7 18 5 1 (c4 cH) [] ([a.ig]:E Int)<|dN 3 [[2]] [(22,c9)] M h ib λm h=>h5 3 (eE [1,4,5] [(1,1),(22,c8)]) h) λj h=>dF 5 26 j<|dt 2<|dF 5 34 i<|dt 2<|i1 7 37 5 1 (c4 cH) [] ([a.ig]:E Int)<|h5 3 (eE [1,4,5] [(1,1),(37,c8)]) h) λi h=>dt 6<|c7 7 [26,23] [] h (λh=>dN 8 [[2]] [(30,c9)] M h ib λo h=>h5 3 (eE [1,4,5] [(1,1),(30,c8)]) h) λh=>dF 5 34 i<|dt 2<|dQ 2 h
def DB(b:E Int)(a:Int×Int):X ((Int×Int)⊕Int):=cond (decide (a.2<(F b:Int))) (O (di b a.2) λd=>B (dV (jD cZ (ji cZ a.1 8) (U cZ d),U W (a.2+1))))<|B (du a.1)
def js(d:E Int)(a b:Int):X (Int×Bool):=cond (decide (b<1)) M<|cond (decide (b>8)) M<|cond (decide (a<0)) M<|cond (decide (a>(U W ((F d:Int)-b)))) M<|O (g2 d a (U W (a+b))) λi=>O (dq (DB i) (0,0)) λg=>B ((g,T))
def lx{g i j}(r)(h:js g i j=B r):dX 173 [dJ 1 (c4 cH) g,cS i,cS j] (.eu [(Z,[d6 r.1]),(Z,[gR r.2])]):=dc<|gF 11 [12,13] [] h λh=>gF 4 [15,16,17] [] h λh=>gF 4 [19,20,21] [] h λh=>eI 8 [27,28] [] h λh=>kh 13 (c4 cH) 1 h λl h=>eQ 4 h (cX [8,34,35,36] []) (λb=>[(8,.c<|d6 b.1),(36,cS b.2)]) (λb=>[]) 0 (cX [8] []) (λd=>[(8,.c<|d6 d)]) (λd=>[]) (λb a h=>c7 5 [37] [] h (λh=>e5 5 (c4 cH) h λk h=>ey 16 h) λh=>eo 2 h) λd h=>cJ 8 h
def Cx(a:E Int):X (Int×Int):=O (js (lr 16 a) 0 8) λb=>O (js (lr 16 a) 8 8) λd=>B ((b.1,d.1))
def aci{a}(r)(h:Cx a=B r):dX 489 [.agg (ek cH 16 a)] (.eu [(Z,[d6 r.1]),(Z,[d6 r.2])]):=dc<|cV 8<|LC 1 0 16 (t:=0) (l:=16) h8 h8 J J<|dC h λg b h=>wM [] (lx g b) J J<|cV 8<|LC 1 0 16 (t:=0) (l:=16) h8 h8 J J<|dC h λi d h=>wM [] (lx i d) J J<|cJ 14 h
def xW:X eW:=B ((eW.mk [254,128,0,0,0,0,0,0,0,0,0,0,0,0,0,0] 64))
def Nf(r)(h:xW=B r):dX 453 [] ((dP eW.cs r)):=dc<|cJ 11 h
def sk(a:eW)(d:Int):X (E Int×Bool):=O (sl a) λg=>cond g (cond (decide (a.fu>64)) M<|O (hy [] d 8) λb=>B (([(a.en.getD 0 0),(a.en.getD 1 0),(a.en.getD 2 0),(a.en.getD 3 0),(a.en.getD 4 0),(a.en.getD 5 0),(a.en.getD 6 0),(a.en.getD 7 0),((n0 8 [(a.en.getD 8 0),(a.en.getD 9 0),(a.en.getD 10 0),(a.en.getD 11 0),(a.en.getD 12 0),(a.en.getD 13 0),(a.en.getD 14 0),(a.en.getD 15 0)] (cQ.cL .c_ b)).getD 0 0),((n0 8 [(a.en.getD 8 0),(a.en.getD 9 0),(a.en.getD 10 0),(a.en.getD 11 0),(a.en.getD 12 0),(a.en.getD 13 0),(a.en.getD 14 0),(a.en.getD 15 0)] (cQ.cL .c_ b)).getD 1 0),((n0 8 [(a.en.getD 8 0),(a.en.getD 9 0),(a.en.getD 10 0),(a.en.getD 11 0),(a.en.getD 12 0),(a.en.getD 13 0),(a.en.getD 14 0),(a.en.getD 15 0)] (cQ.cL .c_ b)).getD 2 0),((n0 8 [(a.en.getD 8 0),(a.en.getD 9 0),(a.en.getD 10 0),(a.en.getD 11 0),(a.en.getD 12 0),(a.en.getD 13 0),(a.en.getD 14 0),(a.en.getD 15 0)] (cQ.cL .c_ b)).getD 3 0),((n0 8 [(a.en.getD 8 0),(a.en.getD 9 0),(a.en.getD 10 0),(a.en.getD 11 0),(a.en.getD 12 0),(a.en.getD 13 0),(a.en.getD 14 0),(a.en.getD 15 0)] (cQ.cL .c_ b)).getD 4 0),((n0 8 [(a.en.getD 8 0),(a.en.getD 9 0),(a.en.getD 10 0),(a.en.getD 11 0),(a.en.getD 12 0),(a.en.getD 13 0),(a.en.getD 14 0),(a.en.getD 15 0)] (cQ.cL .c_ b)).getD 5 0),((n0 8 [(a.en.getD 8 0),(a.en.getD 9 0),(a.en.getD 10 0),(a.en.getD 11 0),(a.en.getD 12 0),(a.en.getD 13 0),(a.en.getD 14 0),(a.en.getD 15 0)] (cQ.cL .c_ b)).getD 6 0),((n0 8 [(a.en.getD 8 0),(a.en.getD 9 0),(a.en.getD 10 0),(a.en.getD 11 0),(a.en.getD 12 0),(a.en.getD 13 0),(a.en.getD 14 0),(a.en.getD 15 0)] (cQ.cL .c_ b)).getD 7 0)],T))) M
def BN{a b}(r)(h:sk a b=B r):dX 455 [dP eW.cs a,.c (d6 b)] (.eu [(T,ek cH 16 r.1),(Z,[gR r.2])]):=dc<|db 10 h zj λg h=>eX h λaJ G=>by subst aJ;exact eI 7 [13,14] [] G λG=>dK 9 0<|tO 6 0 16 (t:=8) (l:=16) h8 h8 J J<|jf 20 c9 1 [[2]] G ib λd G=>QW (g:=cH) 6 8 8 [(a.en.getD 8 0),(a.en.getD 9 0),(a.en.getD 10 0),(a.en.getD 11 0),(a.en.getD 12 0),(a.en.getD 13 0),(a.en.getD 14 0),(a.en.getD 15 0)] d .c_ (pre:=(f0 cH a.en 0 8)) (post:=[]) J J J<|dG 0 7<|cJ 0 G
def O0(a:gj)(b:Int):X Bool:=cond a.OM (B ((decide (b<a.ge)))) M
def aoI{a b}(r)(h:O0 a b=B r):dX 518 [dP gj.cs a,cS b] ((e4 r)):=dc<|hW 10 [6,7] [] h λh=>cJ 8 h
def OZ(d:E gj)(i:Int)(g:E Int)(a:Bool×Int×gj):X ((Bool×Int×gj)⊕(Bool×gj)):=cond (decide (a.2.1<(F d:Int))) (O (di d a.2.1) λb=>O (O0 b i) λj=>cond j (O (rm g b.o3.fu) λk=>cond (eW.fV k b.o3) (cond a.1 M<|B (dV (T,U W (a.2.1+1),b))) M) M)<|B (du (a.1,a.2.2))
def CC(a:E gj)(g:E Int)(b:Int):X (gj×Bool):=O (zU a) λi=>cond i (O (zV b) λj=>cond j (O (dq (OZ a b g) (Z,0,(gj.mk 0 (eW.mk eP 0) Z 0))) λd=>B ((d.2,d.1))) M) M
def acp{i j k}(r)(h:CC i j k=B r):dX 491 [dJ 20 gj.cs i,.agg (ek cH 16 j),cS k] (.eu [(T,gj.cs r.1),(Z,[gR r.2])]):=dc<|db 10 h Nd λo h=>eX h λaJ G=>by subst aJ;exact hu 3 [] 3 G Tf λG=>eQ 16 G (cX [2,4,6,8,9,22,23,24] [4,6,8]) (λd=>[(9,e4 d.1),(24,cS d.2.1)]) (λd=>[(8,.box<|gj.cs d.2.2)]) 0 (cX [6,8,9] [6,8]) (λg=>[(9,e4 g.1)]) (λg=>[(8,.box<|gj.cs g.2)]) (λd a G=>c7 5 [25] [] G (λG=>e5 5 gj.cs G λm G=>dK 6 2<|d0 0 G aoI λp G=>eX G λl b=>by subst l;exact d0 6 b GQ λq b=>dG 4 0<|hb 0 [] [40,41] b λb=>gF 6 [9,42] [43,44] b λb=>dt 9<|ey 10 b) λG=>eo 2 G) λg G=>cJ 9 G
def zP(a:fj):X (Int×Bool):=O (tx a) λb=>cond b (cond (a.Mode==2) M<|cond (a.Mode==3) (B ((jn cZ a.h1 144115188075855872,T))) M) M
def Td{a}(r)(h:zP a=B r):dX 452 [dP fj.cs a] (.eu [(Z,[d6 r.1]),(Z,[gR r.2])]):=dc<|hu 10 [] 2 h zi λh=>eI 13 [10,9] [] h λh=>hb 5 [16,15] [] h λh=>cJ 11 h
def C0(a:Int):X (E Int×Bool):=cond ((vC cZ a 65535) !=1099478073344) (B ((([]:E Int),Z))) M
def acx{a}(r)(h:C0 a=B r):dX 494 [.c (d6 a)] (.eu [(Z,[eS 1 (c4 cH) (r.1)]),(Z,[gR r.2])]):=dc<|hb 12 [6] [] h λh=>cJ 7 h
def C1(a:E Int)(j:fj)(u:Bool)(k:E gj)(l:Int):X tM:=cond u (cond (nn 16 a eP) M<|O (Cx a) λd=>O xW λD=>O (sk D d.2) λs=>cond s.2 (O (CC k a l) λi=>cond i.2 (O (sk i.1.o3 d.2) λt=>cond t.2 (cond (nn 16 s.1 a) M<|cond (nn 16 t.1 a) (O (zP j) λm=>cond m.2 (cond (m.1==d.2) (B ((tM.mk T i.1.oa 3 ([]:E Int))))<|O (C0 d.2) λx=>cond x.2 M<|O (hy [] d.2 8) λy=>B ((tM.mk T i.1.oa 1 y))) M) M) M) M) M)<|O (Cx a) λb=>O xW λz=>O (sk z b.2) λo=>cond o.2 (O (CC k a l) λg=>cond g.2 (O (sk g.1.o3 b.2) λp=>cond p.2 (cond (nn 16 o.1 a) M<|cond (nn 16 p.1 a) (O (zP j) λq=>cond q.2 (cond (q.1==b.2) (B ((tM.mk T g.1.oa 3 ([]:E Int))))<|O (C0 b.2) λA=>cond A.2 M<|O (hy [] b.2 8) λC=>B ((tM.mk T g.1.oa 1 C))) M) M) M) M) M
abbrev YP:E (Nat×Nat):=[(2089,900003),(6010,6010)]
abbrev YQ:=cX [10,76] [4010,2014,2015]
abbrev YR:E (Nat×Nat):=[(600000,900003),(6010,6010)]
abbrev Y2:=cX [10,87,89] [4010,2014,2015,89]
abbrev Zj:=cX [3,4,5,6,10,12,13,35,36] [6,10,12]
abbrev Yv:=cX [5,6,10,12,14,15,46,47,49] [2006,2010,2012,14,15]
def ab1{b d g i j}(r)(h:C1 b d g i j=B r):ei 440 [.agg (ek cH 16 b),dP fj.cs d,e4 g,dJ 20 gj.cs i,cS j] [] (.agg (eT [(3,u1)] (tM.cs r))) [(mD,cW 5 1 r.bytes)]:=dc<|lQ 2<|eN h (λa1 G=>by subst a1;exact eI 13 [26,27] [] G λG=>db 4 G aci λy G=>k0 9<|db 5 G Nf λD G=>dj 0 Zj<|f_ 0 2000<|gZ 19 490<|db 9 G BN λK G=>hW 11 [12,6,13,14] [] G λG=>cV 7<|gN J J<|db 8 G acp λN G=>hW 11 [44,16,45,46] [] G λG=>dj 3 Yv<|f_ 0 2000<|gZ 19 490<|db 9 G BN λP G=>hW 11 [12,6,13,14] [] G λG=>cV 7<|gN J J<|SH 9 [52] [53,54] G λk G=>hb 4 [50,51,16,55] [56,57] G λG=>k0 3<|db 6 G Td λm G=>hW 10 [69,19,70,71] [] G λG=>c7 5 [74,75] [] G (λG=>dj 3 YQ<|f_ 0 2000<|gZ 16 493<|dF 8 7 k<|dt 1<|cV 11<|gN J J<|cV 2<|ka 6010 3 c8 5 1 J<|dj 0 (eE [10] YR)<|cJ 2 G) λG=>db 5 G acx λo G=>eI 10 [82,21,83] [] G λG=>dN 5 [[2]] [(89,c9)] M G ib λp G=>dj 0 Y2<|f_ 0 2000<|gZ 16 493<|dF 8 7 k<|dt 1<|cV 11<|gN J J<|dj 2 (eE [10] YP)<|cJ 1 G) λa1 a=>by subst a1;exact dt 13<|db 4 a aci λq a=>k0 9<|db 5 a Nf λs a=>dj 0 Zj<|f_ 0 2000<|gZ 19 490<|db 9 a BN λt a=>hW 11 [12,6,13,14] [] a λa=>cV 7<|gN J J<|db 8 a acp λu a=>hW 11 [44,16,45,46] [] a λa=>dj 3 Yv<|f_ 0 2000<|gZ 19 490<|db 9 a BN λx a=>hW 11 [12,6,13,14] [] a λa=>cV 7<|gN J J<|SH 9 [52] [53,54] a λl a=>hb 4 [50,51,16,55] [56,57] a λa=>k0 3<|db 6 a Td λz a=>hW 10 [69,19,70,71] [] a λa=>c7 5 [74,75] [] a (λa=>dj 3 YQ<|f_ 0 2000<|gZ 16 493<|dF 8 7 l<|dt 1<|cV 11<|gN J J<|cV 2<|ka 6010 3 c8 5 1 J<|dj 0 (eE [10] YR)<|cJ 2 a) λa=>db 5 a acx λA a=>eI 10 [82,21,83] [] a λa=>dN 5 [[2]] [(89,c9)] M a ib λC a=>dj 0 Y2<|f_ 0 2000<|gZ 16 493<|dF 8 7 l<|dt 1<|cV 11<|gN J J<|dj 2 (eE [10] YP)<|cJ 1 a
def Iu(a:ee)(j k:fj)(g:E gj)(i:Int):X (E Int×Int):=O (ws a) λq=>cond q (O (CT j k g i) λy=>cond (y !=0) M<|O (Iv a) λl=>O (C1 a.dU j T g i) λb=>O (uG a.ed) λz=>cond z M<|O (C1 a.ed k Z g i) λd=>O (wh ((U W ((U W (16*b.id))+d.id)) !=0) 128) λs=>O (wh b.R0 64) λt=>O (wh Z 8) λu=>O (wh d.R0 4) λx=>cond ((U W ((U W (16*b.id))+d.id)) !=0) M<|O (ej 1 ([U cH l.1,U cH (U W ((U W ((U W (s+t))+(U W (16*b.Gx))))+(U W ((U W (u+x))+d.Gx))))]:E Int) (cQ.cL .c_ l.2)) λm=>O (ej 1 m (cQ.cL .c_ b.bytes)) λo=>O (ej 1 o (cQ.cL .c_ d.bytes)) λp=>B ((p,0))) M
def anq{a b d g i}(r)(h:Iu a b d g i=B r):ei 388 [dP ee.cs a,dP fj.cs b,dP fj.cs d,dJ 20 gj.cs g,cS i] [] (.eu [(Z,[d7 1 gv (c4 cH) r.1]),(Z,[c5 r.2])]) [(c9,cW 5 1 r.1)]:=dc<|hu 12 [] 2 h To λh=>db 8 h acv λx h=>eI 7 [30] [] h λh=>dN 4 [] [(34,k4)] M h anr λo h=>dN 13 [] [(42,mD)] M h ab1 λp h=>Bm 7 [] 11 h GP λh=>dN 6 [] [(55,mD)] M h ab1 λq h=>dK 13 2<|d0 0 h GU λj h=>d0 2 h GU λk h=>dG 6 1<|dK 0 2<|d0 0 h GU λl h=>d0 2 h GU λm h=>dG 6 6<|i1 0 88 5 1 (c4 cH) [] ([U cH o.1,U cH<|U W<|(U W<|(U W<|j+k)+(U W<|16*p.Gx))+(U W<|(U W<|l+m)+q.Gx)]:E Int)<|eI 8 [63,90] [] h λh=>nm 5 88 5 1 (c4 cH) h λt h=>nm 7 88 5 1 (c4 cH) h λu h=>nm 7 88 5 1 (c4 cH) h λs h=>dj 3 (eE [10,11] [(88,c9)])<|cJ 1 h
def uH(a b d:Int):X Bool:=cond (decide ((U W a)>=b)) (B ((decide ((U W a)<(U W (b+d))))))<|B (Z)
def BP{a b d}(r)(h:uH a b d=B r):dX 443 [kX a,cS b,cS d] ((e4 r)):=dc<|gp 11 [10,11] [] h (λh=>cJ 10 h) λh=>cJ 10 h
def DD(b:E jI)(i:E Int)(a:(E Int)×Int):X ((E Int×Int)⊕((E Int))):=cond (decide (a.2<(F b:Int))) (O (di b a.2) λd=>O (hy a.1 d.value d.bytes) λg=>cond (decide (F i<F g)) (B (dV (g,U W (a.2+1)))) M)<|B (du a.1)
def DC(a:E Int)(b:E jI):X (E Int):=O (dq (DD b a) (a,0)) λd=>B (d)
def acW{b i}(r)(h:DC b i=B r):sj h6 438 [.c (d7 1 su (c4 cH) b),dJ 2 jI.cs i] 5 1 (F b) (.c (d7 1 su (c4 cH) r)) (F r):=ZW [] 21 0 Tryz.func438 rfl rfl J rfl λK=>eQ 12 h (cX [0,7,8,9,sv] [rs]) (λd=>[(0,.c<|d7 1 su (c4 cH) d.1),(9,cS d.2)]) (λd=>[(rs,cW 5 1 d.1)]) 0 (cX [0,sv] [rs]) (λg=>[(0,.c<|d7 1 su (c4 cH) g)]) (λg=>[(rs,cW 5 1 g)]) (λd a h=>c7 5 [10] [] h (λh=>e5 5 jI.cs h λk h=>dN 10 [[2]] [(18,c9)] M h ib λl h=>eX h λj h=>cV 6<|aik (sz:=1) (ae:=jv (c4 cH) b) 18 j J J<|cV 1<|by cases h;exact Ff _ (eE [0,7,8,9,sv] [(18,rs)]) rfl J J) λh=>eo 2 h) λg h=>cV 7<|by cases h;exact wQ (b:=1) (d:=jv (c4 cH) b) J J J J
def Jz(a:ee)(d:Int):X (E Int):=O (tA a) λb=>O (tA a) λl=>O (h4 1 0 l) λk=>O (DC (fe k (0:Int)) ([(jI.mk (U cZ ((U cZ (1610612736+(ji cZ (U cZ a.ig) 20)))+(U cZ a.ij))) 4),(jI.mk (U cZ (U W (b-40))) 2),(jI.mk (U cZ a.Next) 1),(jI.mk (U cZ a.e3) 1)]:E jI)) λm=>O (ej 1 m (cQ.cL .c_ (lr 16 a.dU))) λg=>O (ej 1 g (cQ.cL .c_ (lr 16 a.ed))) λi=>cond (a.Next==17) (O (DC i ([(jI.mk (U cZ a.j_) 2),(jI.mk (U cZ a.gM) 2),(jI.mk (U cZ (U W (b-40))) 2),(jI.mk (U cZ d) 2)]:E jI)) λo=>O (ej 1 o (cQ.cL .c_ a.f7)) λj=>B (j)) M
def anY{a b}(r)(h:Jz a b=B r):ei 385 [dP ee.cs a,kX b] [] (.c (d7 1 gv (c4 cH) r)) [(c9,cW 5 1 r)]:=dc<|db 12 h Nj λk h=>dK 5 2<|d0 0 h Nj λl h=>dC h λt g h=>XW 15 5 1 (c4 cH) (0:Int) [] (d:=[da 0]) (s:=0) (c:=l) g J J J<|fa 20<|let d:=(jI.mk (U cZ<|U W<|k-40) 2);o5 36 598 2 jI.cs [] ([(jI.mk (U cZ<|(U cZ<|1610612736+(ji cZ (U cZ a.ig) 20))+(U cZ a.ij)) 4),d,(jI.mk (U cZ a.Next) 1),(jI.mk (U cZ a.e3) 1)]:E jI) J J<|i7 J<|dC h λm i h=>tP 15 [[],[3]] (acW m i) J J J<|cV 6<|LC 2 4 16 (t:=0) (l:=16) h8 h8 J J<|nm 0 15 5 1 (c4 cH) h λq h=>cV 6<|LC 2 20 16 (t:=0) (l:=16) h8 h8 J J<|nm 0 15 5 1 (c4 cH) h λs h=>hb 9 [48] [] h λh=>i1 16 64 598 2 jI.cs [] ([(jI.mk (U cZ a.j_) 2),(jI.mk (U cZ a.gM) 2),d,(jI.mk (U cZ b) 2)]:E jI)<|dC h λo j h=>tP 15 [[],[3]] (acW o j) J J J<|nm 7 15 5 1 (c4 cH) h λp h=>dj 2 (eE [4] [(15,c9)])<|cJ 1 h
end
section
attribute [local irreducible] TS go TD goD
def H9(b:Int×Bool×Int)(a:Int×Bool):X ((Int×Bool×Int)⊕(Int×Bool)):=B (dV (a.1,(!a.2),U W (b.2.2+1)))
def H_(d:E Int)(a:Int×Bool×Int):X ((Int×Bool×Int)⊕(Int×Bool)):=cond (decide (a.2.2<(F d:Int))) (O (di d a.2.2) λb=>cond a.2.1 ((H9 a) (U cZ (a.1+(ji cZ (U cZ b) 8)),T))<|(H9 a) (U cZ (a.1+(U cZ b)),Z))<|B (du (a.1,a.2.1))
def OT(b:E (E Int))(a:Int×Bool×Int):X ((Int×Bool×Int)⊕Int):=cond (decide (a.2.2<(F b:Int))) (O (di b a.2.2) λg=>O (dq (H_ g) (a.1,a.2.1,0)) λd=>B (dV (d.1,d.2,U W (a.2.2+1))))<|B (du a.1)
def H8(a:E (E Int)):X Int:=O (dq (OT a) (0,T,0)) λb=>B (b)
abbrev YW:=cX [3,4,9,10,11,15,16,17] []
def aoD{k}(r)(h:H8 k=B r):dX 488 [dJ 1 (jK 1 (c4 cH)) k] (.c (d6 r)):=dc<|eQ 20 h (cX [3,4,9,10,11] []) (λd=>[(3,.c<|d6 d.1),(4,e4 d.2.1),(11,cS d.2.2)]) (λd=>[]) 0 (cX [3] []) (λj=>[(3,.c<|d6 j)]) (λj=>[]) (λd a h=>c7 5 [12] [] h (λh=>e5 5 (jK 1<|c4 cH) h λm h=>eQ 10 h YW (λb=>[(3,.c<|d6 b.1),(4,e4 b.2.1),(17,cS b.2.2)]) (λb=>[]) 2 (cX [3,4,9,10,11] []) (λg=>[(3,.c<|d6 g.1),(4,e4 g.2)]) (λg=>[]) (λb a h=>c7 5 [18] [] h (λh=>e5 5 (c4 cH) h λl h=>fR 3 YW (λi=>[(3,.c<|d6 i.1),(4,e4 i.2)]) (λi=>[]) (H9 b) a (λi h=>ey 10 h)<|c7 4 [4,21] [] h (λh=>dQ 8 h) λh=>dQ 7 h) λh=>eo 2 h) λg h=>ey 6 h) λh=>eo 2 h) λj h=>cJ 7 h
def OS(a:Int):X (Int⊕Int):=cond (decide (a>65535)) (B (dV (U cZ ((hc a 65536)+(hf cZ a 65536)))))<|B (du a)
def H7(a:Int):X Int:=O (dq (OS) a) λb=>B (U fW b)
def aoC{g}(r)(h:H7 g=B r):dX 487 [.c (d6 g)] ((kX r)):=dc<|eQ 6 h Fv (λd=>[(0,.c<|d6 d)]) (λd=>[]) 0 Fv (λb=>[(0,.c<|d6 b)]) (λb=>[]) (λd a h=>c7 6 [4] [] h (λh=>ey 11 h) λh=>eo 2 h) λb h=>cJ 8 h
def H6(a:E (E Int)):X Int:=O (H8 a) λb=>O (H7 b) λd=>B (U fW (65535-d))
def aoB{a}(r)(h:H6 a=B r):dX 437 [dJ 1 (jK 1 (c4 cH)) a] ((kX r)):=dc<|db 7 h aoD λb h=>db 0 h aoC λd h=>cJ 4 h
def JA(a:E Int):X Int:=O (hy [] (U cZ (U W ((F a:Int)-40))) 4) λk=>O (g2 a 8 40) λd=>O (g2 a 40 46) λg=>O (g2 (lr 2 [0,0]) 0 (2:Int)) λi=>O (g2 a 48 (F a:Int)) λj=>O (H6 ([d,k,([0,0,0,17]:E Int),g,i,j]:E (E Int))) λb=>cond (b==0) (B (65535))<|B (b)
def apf{a}(r)(h:JA a=B r):dX 384 [dJ 1 (c4 cH) a] ((kX r)):=dc<|aiX 6<|dN 7 [[2]] [(11,c9)] M h ib λo h=>i1 4 12 5 1 (c4 cH) [] ([0,0,0,17]:E Int)<|dK 3 1<|dC h λj b h=>rD (c4 cH) 1 b J J<|dC h λk d h=>fa 3<|rD (c4 cH) 1 d J J<|dC h λl g h=>X0 (g:=cH) (t:=0) (l:=(2:Int)) 2 [0,0] h8 g J J<|dC h λm i h=>fa 1<|rD (c4 cH) 1 i J J<|o5 22 30 1 (jK 1<|c4 cH) [2] ([j,o,([0,0,0,17]:E Int),k,l,m]:E (E Int)) J J<|i7 J<|nF 0 [[2]] h aoB λp h=>c7 8 [25] [] h (λh=>cJ 6 h) λh=>cJ 7 h
def x1(a:ee):X Int:=O (ws a) λb=>cond b (cond (a.Next !=17) M<|O (Jz a 0) λd=>O (JA d) λg=>B (g)) M
def acV{a}(r)(h:x1 a=B r):dX 339 [dP ee.cs a] ((kX r)):=dc<|db 9 h To λb h=>eX h λaJ G=>by subst aJ;exact eI 7 [9,10] [] G λG=>dN 4 [] [(12,c9)] M G anY λd G=>nF 0 [[2]] G apf λg G=>cJ 3 G
def ty(a:ee)(b:E Int):X (E Int):=O (x1 a) λd=>O (hy b (U cZ d) 2) λg=>B (g)
def Ib(b:E Int)(a:ee):X (E Int):=O (uH a.j_ 61616 16) λN=>cond N (O (uH a.gM 61616 16) λaa=>cond aa (O (hy b 243 1) λab=>O (hy ab (U cZ ((U cZ ((U cZ ((U cZ ((U cZ a.j_)-61616))*16))+(U cZ a.gM)))-61616)) 1) λd=>(ty a) d)<|O (uH a.gM 61440 256) λg=>cond g (O (hy b 241 1) λi=>O (hy i (U cZ a.j_) 2) λj=>O (hy j (U cZ ((U cZ a.gM)-61440)) 1) λk=>(ty a) k)<|O (uH a.j_ 61440 256) λl=>cond l (O (hy b 242 1) λm=>O (hy m (U cZ ((U cZ a.j_)-61440)) 1) λo=>O (hy o (U cZ a.gM) 2) λp=>(ty a) p)<|O (hy b 240 1) λq=>O (hy q (U cZ a.j_) 2) λs=>O (hy s (U cZ a.gM) 2) λt=>(ty a) t)<|O (uH a.gM 61440 256) λu=>cond u (O (hy b 241 1) λx=>O (hy x (U cZ a.j_) 2) λy=>O (hy y (U cZ ((U cZ a.gM)-61440)) 1) λz=>(ty a) z)<|O (uH a.j_ 61440 256) λA=>cond A (O (hy b 242 1) λC=>O (hy C (U cZ ((U cZ a.j_)-61440)) 1) λD=>O (hy D (U cZ a.gM) 2) λK=>(ty a) K)<|O (hy b 240 1) λP=>O (hy P (U cZ a.j_) 2) λQ=>O (hy Q (U cZ a.gM) 2) λS=>(ty a) S
abbrev aiS:E (Nat×Nat):=[(6002,2),(6003,3),(8,8)]
abbrev Bb:=eE [2,3,6] aiS
abbrev YZ:=cX [2,3,6,55,57] [4002,4003,8]
abbrev Y0:=cX [2,3,6,70,71] [4002,4003,8]
abbrev Y1:=cX [2,3,6,21,22] [4002,4003,8]
abbrev Y_:=cX [2,3,6,8,52,53] [2002,2003,8]
abbrev Za:=cX [2,3,6,8,66,68] [2002,2003,8]
abbrev Zb:=cX [2,3,6,8,18,19] [2002,2003,8]
def am9{i d}(r)(h:Ib i d=B r):ei 389 [dJ 1 (c4 cH) i,dP ee.cs d] [] (.c (d7 1 gv (c4 cH) r)) [(c9,cW 5 1 r)]:=dc<|k0 12<|dK 3 8<|dG 0 0<|fR 0 (cX [2,3,6] [2,3]) (λb=>[]) (λb=>[(2,.box [d7 1 10 (c4 cH) b]),(8,cW 5 1 b)]) (ty d) r (λb h=>db 4 h acV λo h=>dj 1 (cX [2,73,76] [2,8])<|f_ 0 2000<|gZ 9 444<|dN 4 [[2]] [(8,c9)] M h ib λu h=>cV 2<|gN J J<|dj 6 (eE [4] [(8,c9)])<|cJ 1 h)<|db 6 h BP λP h=>eN h (λg G=>by subst g;exact ha 4 [] 3 G BP (λG=>dj 3 (cX [2,3,6,7,8,35] [2,3])<|f_ 0 2000<|gZ 9 444<|dN 4 [] [(8,c9)] M G ib λab G=>cV 2<|gN J J<|dj 9 (cX [2,3,6,37,43] [2002,2003,8])<|f_ 0 2000<|gZ 9 444<|dN 4 [[2]] [(8,c9)] M G ib λj G=>cV 2<|gN J J<|h5 2 (eE [2,3,6] [(4002,2),(4003,3),(8,8)]) G) λG=>ha 5 [] 2 G BP (λG=>dj 3 (cX [2,3,6,7,8,50] [2,3])<|f_ 0 2000<|gZ 9 444<|dN 4 [] [(8,c9)] M G ib λk G=>cV 2<|gN J J<|dj 5 Y_<|f_ 0 2000<|gZ 9 444<|dN 4 [[2]] [(8,c9)] M G ib λl G=>cV 2<|gN J J<|dj 5 YZ<|f_ 0 2000<|gZ 9 444<|dN 4 [[2]] [(8,c9)] M G ib λm G=>cV 2<|gN J J<|h5 2 Bb G) λG=>ha 5 [] 2 G BP (λG=>dj 3 (cX [2,3,6,7,8,64] [2,3])<|f_ 0 2000<|gZ 9 444<|dN 4 [] [(8,c9)] M G ib λp G=>cV 2<|gN J J<|dj 6 Za<|f_ 0 2000<|gZ 9 444<|dN 4 [[2]] [(8,c9)] M G ib λq G=>cV 2<|gN J J<|dj 4 Y0<|f_ 0 2000<|gZ 9 444<|dN 4 [[2]] [(8,c9)] M G ib λs G=>cV 2<|gN J J<|h5 2 Bb G) λG=>dj 3 (cX [2,3,6,7,8,16] [2,3])<|f_ 0 2000<|gZ 9 444<|dN 4 [] [(8,c9)] M G ib λt G=>cV 2<|gN J J<|dj 5 Zb<|f_ 0 2000<|gZ 9 444<|dN 4 [[2]] [(8,c9)] M G ib λx G=>cV 2<|gN J J<|dj 4 Y1<|f_ 0 2000<|gZ 9 444<|dN 4 [[2]] [(8,c9)] M G ib λy G=>cV 2<|gN J J<|h5 2 Bb G) λg a=>by subst g;exact dt 8<|ha 5 [] 2 a BP (λa=>dj 3 (cX [2,3,6,7,8,50] [2,3])<|f_ 0 2000<|gZ 9 444<|dN 4 [] [(8,c9)] M a ib λz a=>cV 2<|gN J J<|dj 5 Y_<|f_ 0 2000<|gZ 9 444<|dN 4 [[2]] [(8,c9)] M a ib λA a=>cV 2<|gN J J<|dj 5 YZ<|f_ 0 2000<|gZ 9 444<|dN 4 [[2]] [(8,c9)] M a ib λC a=>cV 2<|gN J J<|h5 2 Bb a) λa=>ha 5 [] 2 a BP (λa=>dj 3 (cX [2,3,6,7,8,64] [2,3])<|f_ 0 2000<|gZ 9 444<|dN 4 [] [(8,c9)] M a ib λD a=>cV 2<|gN J J<|dj 6 Za<|f_ 0 2000<|gZ 9 444<|dN 4 [[2]] [(8,c9)] M a ib λK a=>cV 2<|gN J J<|dj 4 Y0<|f_ 0 2000<|gZ 9 444<|dN 4 [[2]] [(8,c9)] M a ib λN a=>cV 2<|gN J J<|h5 2 Bb a) λa=>dj 3 (cX [2,3,6,7,8,16] [2,3])<|f_ 0 2000<|gZ 9 444<|dN 4 [] [(8,c9)] M a ib λQ a=>cV 2<|gN J J<|dj 5 Zb<|f_ 0 2000<|gZ 9 444<|dN 4 [[2]] [(8,c9)] M a ib λS a=>cV 2<|gN J J<|dj 4 Y1<|f_ 0 2000<|gZ 9 444<|dN 4 [[2]] [(8,c9)] M a ib λaa a=>cV 2<|gN J J<|h5 2 Bb a
def Ia(a:ee)(d:E Int):X (E Int×Int):=O (ej 1 d (cQ.cL .c_ a.f7)) λb=>B ((b,0))
def CA(a:ee)(d g:fj)(i:E gj)(j:Int):X (E Int×Int):=O (Iu a d g i j) λb=>cond (b.2 !=0) M<|cond (a.Next==17) (O (Ib b.1 a) λk=>(Ia a) k)<|(Ia a) b.1
def am8{b d g i j}(r)(h:CA b d g i j=B r):ei 305 [dP ee.cs b,dP fj.cs d,dP fj.cs g,dJ 20 gj.cs i,cS j] [] (.eu [(Z,[d7 1 gv (c4 cH) r.1]),(Z,[c5 r.2])]) [(c9,cW 5 1 r.1)]:=dc<|dN 15 [] [(20,c9)] M h anq λl h=>eI 12 [24] [] h λh=>fR 1 (cX [5,12] [5,20]) (λa=>[(12,.c<|d7 1 22 (c4 cH) a)]) (λa=>[(20,cW 5 1 a)]) (Ia b) r (λa h=>nm 5 20 5 1 (c4 cH) h λk h=>dj 3 (eE [10,11] [(20,c9)])<|cJ 1 h)<|c7 6 [28] [] h (λh=>dN 3 [[2]] [(31,c9)] M h am9 λm h=>h5 2 (eE [5,12] [(5,5),(31,20)]) h) λh=>dQ 1 h
def Dl(a:l7)(b:E Int):X (E Int):=O (h4 1 0 (U W (28+(F b:Int)))) λj=>O (ej 1 (fe j (0:Int)) (cQ.cL .c_ ([48]:E Int))) λd=>O (hy d (U cZ a.Cw) 5) λk=>O (hy k a.oY 8) λl=>O (hy l (U cZ a.ga) 4) λm=>O (ej 1 m (cQ.cL .c_ ([U cH a.c3.ed.fu,U cH a.c3.dU.fu]:E Int))) λg=>O (hy g a.c3.dW 8) λo=>O (ej 1 o (cQ.cL .c_ b)) λi=>B (i)
def anJ{b a}(r)(h:Dl b a=B r):ei 306 [dP l7.cs b,dJ 1 (c4 cH) a] [] (.c (d7 1 gv (c4 cH) r)) [(c9,cW 5 1 r)]:=dc<|dC h λk d h=>cV 10<|sI 9 5 1 (c4 cH) (0:Int) [] (d:=[da 0]) (s:=0) (c:=U W<|28+(F a:Int)) d J J J<|jL 5 11 5 1 (c4 cH) [] 0 9 h λi h=>dN 8 [[2]] [(17,c9)] M h ib λl h=>dN 7 [[2]] [(21,c9)] M h ib λm h=>dN 8 [[2]] [(26,c9)] M h ib λo h=>jL 15 38 5 1 (c4 cH) [] 0 26 h λj h=>dN 8 [[2]] [(44,c9)] M h ib λp h=>nm 6 44 5 1 (c4 cH) h λg h=>dj 2 (eE [4] [(44,c9)])<|cJ 1 h
def CK(a:fj):X Int:=cond (a.Mode==2) (B (2))<|cond (a.Mode==3) (B (8)) M
def acq{a}(r)(h:CK a=B r):dX 397 [dP fj.cs a] ((cS r)):=dc<|c7 17 [6,5] [] h (λh=>cJ 7 h) λh=>hb 5 [8,7] [] h λh=>cJ 7 h
def CM(a:Int):X Int:=B (a)
def xR(a:hd):X Int:=cond (a.gi !=2) (O (CK a.ed) λb=>O (CK a.dU) λd=>cond a.qH ((CM) (U W ((U W ((U W ((U W (3+(F a.f7:Int)))+2))+(U W ((U W (2+b))+d))))+(U W (5+(F a.pH:Int))))))<|(CM) (U W ((U W ((U W (3+(F a.f7:Int)))+2))+(U W ((U W (2+b))+d))))) M
def acr{b}(r)(h:xR b=B r):dX 329 [dP hd.cs b] ((cS r)):=dc<|hb 21 [11] [] h λh=>dK 0 3<|d0 0 h acq λd h=>d0 3 h acq λg h=>dG 3 0<|fR 0 (cX [3] []) (λa=>[(3,cS a)]) (λa=>[]) (CM) r (λa h=>cJ 6 h)<|c7 5 [23] [] h (λh=>dQ 9 h) λh=>dQ 1 h
def we(a:hd):X Bool:=O (tx a.ed) λb=>cond b (cond (a.ed.Mode==0) M<|O (tx a.dU) λi=>cond i (cond (a.dU.Mode==0) M<|O (zQ a.dU) λj=>cond j M<|cond a.OK M<|cond a.qH (cond ((F a.pH:Int) !=4) (B (Z))<|O (xR a) λd=>B ((decide (d<=127))))<|cond (a.eJ !=0) M<|cond (a.hJ !=0) M<|cond ((F a.pH:Int) !=0) M<|O (xR a) λg=>B ((decide (g<=127)))) M) M
def aoK{g}(r)(h:we g=B r):dX 258 [dP hd.cs g] ((e4 r)):=dc<|db 10 h zi λj h=>eX h λaJ G=>by subst aJ;exact gF 8 [11,12,13] [] G λG=>db 2 G zi λm G=>eX G λS b=>by subst S;exact eI 9 [23,24] [] b λb=>db 6 b Te λo b=>lg b λi a=>by subst i;exact gF 4 [30,31] [] a λa=>dt 6<|vH 7 [38,39] [] a (λd a=>c7 6 [43,44] [] a (λa=>cJ 6 a) λa=>dF 6 46 d<|dt 18<|db 4 a acr λk a=>cJ 4 a) λd a=>dt 6<|dF 6 46 d<|gF 6 [51,52] [] a λa=>gF 5 [55,56,57] [] a λa=>eI 7 [61,62,63] [] a λa=>db 4 a acr λl a=>cJ 4 a
def zX(a:hd)(b:Bool):X Bool:=cond b (O (we a) λd=>B (d)) M
def qC(a:hd):X Bool:=cond (a.gi==2) M<|cond (a.gi==1) ((zX a) T)<|(zX a) (a.gi==3)
def BR{a}(r)(h:qC a=B r):dX 167 [dP hd.cs a] ((e4 r)):=dc<|eI 17 [6,5] [] h λh=>fR 0 (cX [1] [1]) (λb=>[(9,e4 b)]) (λb=>[]) (zX a) r (λb h=>eX h λak G=>by subst ak;exact dt 0<|db 3 G aoK λd G=>cJ 5 G)<|c7 5 [10,9] [] h (λh=>dQ 1 h) λh=>dQ 4 h
def Ii(a:Bool)(b:Int):X Int:=cond a (B (b))<|B (0)
def Tg{a d}(r)(h:Ii a d=B r):dX 260 [e4 a,qR d] ((qR r)):=dc<|eN h (λa1 G=>agy) λa1 b=>agz
def CL(b:E Int)(a:fj):X (E Int):=cond (a.Mode==2) (O (hy b (U cZ a.tN) 2) λd=>B (d))<|O (hy b a.h1 8) λg=>B (g)
def abX{a b}(r)(h:CL a b=B r):ei 261 [dJ 1 (c4 cH) a,dP fj.cs b] [] (.c (d7 1 gv (c4 cH) r)) [(c9,cW 5 1 r)]:=dc<|c7 12 [7] [] h (λh=>dN 6 [] [(12,c9)] M h ib λd h=>dj 2 (eE [4] [(12,c9)])<|cJ 2 h) λh=>dN 6 [] [(16,c9)] M h ib λg h=>dj 2 (eE [4] [(16,c9)])<|cJ 1 h
def CJ(a:hd)(p:E Int):X (E Int):=O (Ii a.OK 32) λi=>O (Ii a.XB 16) λj=>O (Ii a.qH 8) λk=>cond (a.gi !=2) (O (hy ([jD cH (jD cH (jD cH (ji cH (U cH a.gi) 6) i) j) k,jD cH (ji cH (U cH a.ed.Mode) 6) (ji cH (U cH a.dU.Mode) 4),a.dx]:E Int) (U cZ a.o2) 2) λl=>O (CL l a.ed) λm=>O (CL m a.dU) λo=>cond a.qH (O (hy o (U cZ a.eJ) 4) λg=>O (ej 1 g (cQ.cL .c_ ([a.hJ]:E Int))) λb=>O (ej 1 b (cQ.cL .c_ a.f7)) λd=>B (d)) M) M
def wd(a:hd):X (E Int):=O (qC a) λd=>cond d ((CJ a) a.pH)<|O (h4 1 4 4) λb=>O (qC ({a with pH:=(fe b (0:Int))})) λg=>cond g ((CJ a) (fe b (0:Int))) M
abbrev qi:=l0 14 [2,2]
def S4{a}(r)(h:wd a=B r):ei 170 [dP hd.cs a] [] (.c (d7 1 gv (c4 cH) r)) [(c9,cW 5 1 r)]:=dc<|fR 5 (cX [1] [1]) (λb=>[]) (λb=>[(1,.box<|hd.cs<|{a with pH:=b})]) (CJ a) r (λb h=>dK 1 6<|d0 0 h Tg λg h=>d0 3 h Tg λi h=>d0 3 h Tg λj h=>dG 2 16<|i1 0 43 5 1 (c4 cH) [] ([jD cH (jD cH (jD cH (ji cH (U cH a.gi) 6) g) i) j,jD cH (ji cH (U cH a.ed.Mode) 6)<|ji cH (U cH a.dU.Mode) 4,a.dx]:E Int)<|hb 9 [46] [] h λh=>dN 6 [[2]] [(51,c9)] M h ib λp h=>dN 7 [[2]] [(55,c9)] M h abX λq h=>dN 6 [[2]] [(59,c9)] M h abX λs h=>hb 8 [26,61] [] h λh=>dN 6 [[2]] [(66,c9)] M h ib λo h=>jL 6 70 5 1 (c4 cH) [] 0 66 h λl h=>nm 7 66 5 1 (c4 cH) h λk h=>dj 2 (eE [2] [(66,c9)])<|cJ 1 h)<|ha 3 [] 2 h BR (λh=>dQ 1 h) λh=>dC h λm d h=>cV 2<|sI 8 5 1 (c4 cH) (0:Int) [] (d:=[da 0]) (s:=4) (c:=4) d J J J<|hu 6 [qi] 2 h BR λh=>h5 1 ⟨[(1,[])],[(1,(1,(l0 15 [2])))]⟩ h
def PW(b:E Int)(a:Int×Int):X ((Int×Int)⊕Int):=cond (decide (a.2<(F b:Int))) (O (di b a.2) λd=>cond (decide (0<=(U W (8*a.2)))) (B (dV (jD cZ a.1 (ji cZ (U cZ d) (U W (8*a.2))),U W (a.2+1)))) M)<|B (du a.1)
def Az(a:E Int):X Int:=O (dq (PW a) (0,0)) λb=>B (b)
def Nq{g}(r)(h:Az g=B r):dX 398 [dJ 1 (c4 cH) g] (.c (d6 r)):=dc<|eQ 16 h Rn (λb=>[(3,.c<|d6 b.1),(8,cS b.2)]) (λb=>[]) 0 (cX [3] []) (λd=>[(3,.c<|d6 d)]) (λd=>[]) (λb a h=>c7 5 [9] [] h (λh=>e5 6 (c4 cH) h λi h=>eX h λj h=>cV 10<|o7 (op:=.shl) (g:=cZ) (b:=W) (A:=U cZ i) (j:=U W<|8*b.2) (f8 j) rfl dh J J<|ey 8 h) λh=>eo 2 h) λd h=>cJ 7 h
def uJ(b a:Int):X Int:=cond (decide (0<=(f2 cZ (U cZ a) 63))) (cond (decide (0<=(U cZ (64-(f2 cZ (U cZ a) 63))))) (B (jD cZ (ji cZ b (f2 cZ (U cZ a) 63)) (gh cZ b (U cZ (64-(f2 cZ (U cZ a) 63)))))) M) M
def BS{a b}(r)(h:uJ a b=B r):dX 446 [.c (d6 a),cS b] (.c (d6 r)):=dc<|eX h λd h=>cV 15<|o7 (op:=.shl) (g:=cZ) (b:=cZ) (A:=a) (j:=f2 cZ (U cZ b) 63) (f8 d) rfl dh J J<|eX h λg h=>cV 3<|o7 (op:=.shr) (g:=cZ) (b:=cZ) (A:=a) (j:=U cZ<|64-(f2 cZ (U cZ b) 63)) (f8 g) rfl dh J J<|cJ 4 h
def PX(i:Int)(a:Int×E Int):X ((Int×E Int)⊕((E Int))):=cond (decide (a.1<i)) (O (uJ (a.2.getD 1 0) 13) λb=>O (uJ (U cZ ((a.2.getD 0 0)+(a.2.getD 1 0))) 32) λg=>O (uJ (a.2.getD 3 0) 16) λd=>O (uJ (jn cZ d (U cZ ((a.2.getD 2 0)+(a.2.getD 3 0)))) 21) λk=>O (uJ (jn cZ b (U cZ ((a.2.getD 0 0)+(a.2.getD 1 0)))) 17) λl=>O (uJ (U cZ ((U cZ ((a.2.getD 2 0)+(a.2.getD 3 0)))+(jn cZ b (U cZ ((a.2.getD 0 0)+(a.2.getD 1 0)))))) 32) λj=>B (dV (U W (a.1+1),[U cZ (g+(jn cZ d (U cZ ((a.2.getD 2 0)+(a.2.getD 3 0))))),jn cZ l (U cZ ((U cZ ((a.2.getD 2 0)+(a.2.getD 3 0)))+(jn cZ b (U cZ ((a.2.getD 0 0)+(a.2.getD 1 0)))))),j,jn cZ k (U cZ (g+(jn cZ d (U cZ ((a.2.getD 2 0)+(a.2.getD 3 0))))))])))<|B (du a.2)
def KC(a:E Int)(b:Int):X (E Int):=O (dq (PX b) (0,a)) λd=>B (d)
def adi{g i}(r)(h:KC g i=B r):dX 400 [.agg (ek cZ 4 g),cS i] (.agg (ek cZ 4 r)):=dc<|eQ 12 h (cX [2,4,5,6] [2,4]) (λb=>[(6,cS b.1)]) (λb=>[(2,.box<|ek cZ 4 b.2)]) 0 (cX [2,4] [2,4]) (λd=>[]) (λd=>[(2,.box<|ek cZ 4 d)]) (λb a h=>c7 5 [7] [] h (λh=>db 17 h BS λk h=>db 17 h BS λl h=>db 17 h BS λm h=>db 27 h BS λo h=>db 27 h BS λp h=>db 16 h BS λj h=>ey 8 h) λh=>eo 2 h) λd h=>cJ 7 h
def KB(a:E Int)(d:Int):X (E Int):=O (KC [(a.getD 0 0),(a.getD 1 0),(a.getD 2 0),jn cZ (a.getD 3 0) d] 2) λb=>B ([jn cZ (b.getD 0 0) d,(b.getD 1 0),(b.getD 2 0),(b.getD 3 0)])
def adh{a b}(r)(h:KB a b=B r):dX 399 [.agg (ek cZ 4 a),.c (d6 b)] (.agg (ek cZ 4 r)):=dc<|db 17 h adi λd h=>cJ 17 h
def PV(b:E Int)(a:Int×E Int):X ((Int×E Int)⊕((E Int))):=cond (decide (a.1<(hf W (F b:Int) 8))) (O (g2 b (U W (8*a.1)) (U W ((U W (8*a.1))+8))) λd=>O (Az d) λg=>O (KB a.2 g) λi=>B (dV (U W (a.1+1),i)))<|B (du a.2)
def Kz(a b:E Int):X Int:=O (Az (lr 8 a)) λi=>O (Az ([(a.getD 8 0),(a.getD 9 0),(a.getD 10 0),(a.getD 11 0),(a.getD 12 0),(a.getD 13 0),(a.getD 14 0),(a.getD 15 0)]:E Int)) λj=>O (dq (PV b) (0,[jn cZ i 8317987319222330741,jn cZ j 7237128888997146477,jn cZ i 7816392313619706465,jn cZ j 8387220255154660723])) λk=>O (g2 b (U W (8*(hf W (F b:Int) 8))) (F b:Int)) λl=>O (Az l) λm=>O (KB k (jD cZ m (ji cZ (U cZ (F b:Int)) 56))) λd=>O (KC [(d.getD 0 0),(d.getD 1 0),jn cZ (d.getD 2 0) 255,(d.getD 3 0)] 4) λg=>B (jn cZ (jn cZ (jn cZ (g.getD 0 0) (g.getD 1 0)) (g.getD 2 0)) (g.getD 3 0))
def apJ{g i}(r)(h:Kz g i=B r):dX 330 [.agg (ek cH 16 g),dJ 1 (c4 cH) i] (.c (d6 r)):=dc<|dK 6 0<|tO 2 0 16 (t:=0) (l:=8) h8 h8 J J<|dC h λo l h=>Ls [] (Nq o l) J J<|tO 2 0 16 (t:=8) (l:=16) h8 h8 J J<|i7 J<|dC h λp m h=>wM [] (Nq p m) J J<|eQ 31 h (cX [1,7,8,26,27] [7]) (λb=>[(27,cS b.1)]) (λb=>[(7,.box<|ek cZ 4 b.2)]) 0 (cX [1,7,8] [7]) (λd=>[]) (λd=>[(7,.box<|ek cZ 4 d)]) (λb a h=>c7 5 [28] [] h (λh=>dK 8 7<|dC h λs k h=>rD (c4 cH) 1 k J J<|d0 0 h Nq λy h=>i7 J<|db 0 h adh λz h=>ey 7 h) λh=>eo 2 h) λd h=>dK 2 4<|dC h λq j h=>rD (c4 cH) 1 j J J<|d0 0 h Nq λt h=>fa 5<|i7 J<|db 0 h adh λu h=>db 13 h adi λx h=>cJ 18 h
def agh(b d:Int)(a:Int×E Int):X ((Int×E Int)⊕((E Int))):=cond (decide (a.1<b)) (cond (decide (0<=(U W (8*a.1)))) (O (di (cQ.cL .c_ a.2) a.1) λg=>O (a.2[(0+cM a.1)]?) λi=>B (dV (U W (a.1+1),(ir a.2 (0+cM a.1) (U cH (gh cZ d (U W (8*a.1)))))))) M)<|B (du a.2)
def Ay(b d:E Int)(a:Int):X (E Int×Bool):=cond (decide (a<1)) M<|cond (decide (a>8)) M<|O (Kz b d) λj=>O (h4 1 a a) λi=>O (dq (agh a j) (0,(fe i (0:Int)))) λg=>B ((g,T))
def acc{j k d}(r)(h:Ay j k d=B r):ei 259 [.agg (ek cH 16 j),dJ 1 (c4 cH) k,cS d] [] (.eu [(Z,[d7 1 gv (c4 cH) r.1]),(Z,[gR r.2])]) [(c9,cW 5 1 r.1)]:=dc<|gF 12 [12,13] [] h λh=>eI 4 [15,16] [] h λh=>db 5 h apJ λl h=>dC h λu q h=>cV 5<|qI 21 5 1 (c4 cH) (0:Int) [] (d:=[da 0]) (s:=d) (c:=d) q J J J<|eQ 9 h (cX [8,9,22,23] [21]) (λb=>[(23,cS b.1)]) (λb=>[(21,d5 5 1 (c4 cH) b.2)]) 0 (cX [9] [21]) (λg=>[]) (λg=>[(21,d5 5 1 (c4 cH) g)]) (λb a h=>c7 5 [24] [] h (λh=>eX h λm h=>cV 14<|o7 (op:=.shr) (g:=cZ) (b:=W) (A:=l) (j:=U W<|8*b.1) (f8 m) rfl dh J J<|dC h λs o h=>cV 1<|kz 21 1 0 (c4 cH) .c_ o J J<|dC h λt p h=>let i:=(U cH<|gh cZ l<|U W<|8*b.1);nE 21 5 1 (F b.2) (0+cM b.1) 0 (c4 cH) (b:=[da i]) i p J J J J<|ey 6 h) λh=>eo 2 h) λg h=>dD 7 21<|dj 0 (eE [6,7] [(21,c9)])<|cJ 1 h
def O9(a:E Int):X (E Int):=O (ej 1 [] (cQ.cL .c_ a)) λb=>B (b)
def ann{a}(r)(h:O9 a=B r):ei 350 [dJ 1 (c4 cH) a] [] (.c (d7 1 gv (c4 cH) r)) [(c9,cW 5 1 r)]:=dc<|dC h λd b h=>cV 7<|Fg 4 5 1 (c4 cH) gs (g:=a) .c_ b J J<|dj 2 Fq<|cJ 1 h
def Im(a:eR)(b:hd)(d:Int):X (eR×hd×Int):=O (wg a) λk=>cond k (O (qC b) λp=>cond p (cond (b.gi==2) M<|cond b.qH M<|O (zZ a d) λj=>cond j.2 (cond (a.eJ==a.h3) M<|O (wd ({b with qH:=T,eJ:=a.eJ,hJ:=d})) λl=>O (Ay j.1 l 4) λg=>O (qC ({b with qH:=T,eJ:=a.eJ,hJ:=d,pH:=g.1})) λm=>cond m (O (O9 b.f7) λo=>O (CS a) λi=>B (({i with eJ:=U e9 (i.eJ+1)},{b with qH:=T,eJ:=a.eJ,hJ:=d,f7:=o,pH:=g.1},0))) M) M) M) M
def ani{b d g}(r)(h:Im b d g=B r):ei 271 [dP eR.cs b,dP hd.cs d,qR g] [] (.eu [(T,(eT Rp (eR.cs r.1))),(T,(eT [(14,900080),(15,900081)] (hd.cs r.2.1))),(Z,[c5 r.2.2])]) [(c9,cW 171 17 r.1.jj),(j4,cW 246 6 r.1.d8),(900078,cW 5 1 r.2.1.f7),(900079,cW 5 1 r.2.1.pH)]:=dc<|db 12 h GT λi h=>eX h λaJ G=>by subst aJ;exact db 3 G BR λo G=>eX G λx a=>by subst x;exact gF 8 [23,24,25] [] a λa=>eI 4 [27,28] [] a λa=>db 5 a Th λp a=>hb 13 [36,10,37] [38] a λa=>eI 10 [45] [] a λa=>dK 20 2<|jf 57 c9 0 [] a S4 λj a=>jf 58 c9 0 [[],[2]] a acc λk a=>dG 5 4<|hu 0 [qi] 2 a BR λa=>dN 5 [] [(69,c9)] M a ann λl a=>dN 6 [] [(72,c9),(c8,j4)] M a ab0 λm a=>dK 12 5<|dG 0 0<|dj 0 (eE [6,7,8] [(72,c9),(c8,j4),(69,900078),(58,900079),(6,6),(7,7)])<|cJ 1 a
def H4(a:Int×Int)(b:Int):X ((Int×Int)⊕Int):=B (dV (b,U W (a.2+1)))
def H5(a:Int×Int):X ((Int×Int)⊕Int):=cond (decide (a.2<8)) (cond ((f2 fW a.1 1)==1) ((H4 a) (jn fW (gh fW a.1 1) 33800))<|(H4 a) (gh fW a.1 1))<|B (du a.1)
def OR(b:E Int)(a:Int×Int):X ((Int×Int)⊕Int):=cond (decide (a.2<(F b:Int))) (O (di b a.2) λg=>O (dq (H5) (jn fW a.1 (U fW g),0)) λd=>B (dV (d,U W (a.2+1))))<|B (du a.1)
def VU(a:Int)(b:E Int):X Int:=O (dq (OR b) (a,0)) λd=>B (d)
def aoA{k l}(r)(h:VU k l=B r):dX 328 [kX k,dJ 1 (c4 cH) l] ((kX r)):=dc<|eQ 12 h vj (λd=>[(0,kX d.1),(10,cS d.2)]) (λd=>[]) 0 Fv (λg=>[(0,kX g)]) (λg=>[]) (λd a h=>c7 5 [11] [] h (λh=>e5 5 (c4 cH) h λm h=>eQ 16 h (cX [0,8,9,10,18] []) (λb=>[(0,kX b.1),(18,cS b.2)]) (λb=>[]) 2 vj (λi=>[(0,kX i)]) (λi=>[]) (λb a h=>c7 5 [19] [] h (λh=>fR 1 (cX [0,8,9,10,18] []) (λj=>[(0,kX j)]) (λj=>[]) (H4 b) a (λj h=>ey 4 h)<|c7 18 [25] [] h (λh=>dQ 6 h) λh=>dQ 2 h) λh=>eo 2 h) λi h=>ey 6 h) λh=>eo 2 h) λg h=>cJ 7 h
def zR(a:E Int):X Int:=O (VU 0 a) λb=>B (b)
def ack{a}(r)(h:zR a=B r):dX 253 [dJ 1 (c4 cH) a] ((kX r)):=dc<|db 7 h aoA λb h=>cJ 3 h
def OP(a:E Int):X (E Int):=O (zR a) λb=>O (h4 1 0 (U W ((F a:Int)+2))) λi=>O (ej 1 (fe i (0:Int)) (cQ.cL .c_ a)) λd=>O (ej 1 d (cQ.cL .c_ ([U cH b,U cH (gh fW b 8)]:E Int))) λg=>B (g)
def am6{a}(r)(h:OP a=B r):ei 256 [dJ 1 (c4 cH) a] [] (.c (d7 1 gv (c4 cH) r)) [(c9,cW 5 1 r)]:=dc<|db 7 h ack λj h=>dC h λi b h=>cV 7<|sI 10 5 1 (c4 cH) (0:Int) [] (d:=[da 0]) (s:=0) (c:=U W<|(F a:Int)+2) b J J J<|nm 6 10 5 1 (c4 cH) h λg h=>jL 10 20 5 1 (c4 cH) [] 0 10 h λd h=>dj 2 (eE [2] [(10,c9)])<|cJ 1 h
def zW(a:hd):X (E Int×Int):=O (qC a) λd=>cond d (O (wd a) λg=>O (ej 1 g (cQ.cL .c_ a.pH)) λb=>O (OP b) λi=>B ((i,0))) M
def abW{a}(r)(h:zW a=B r):ei 165 [dP hd.cs a] [] (.eu [(Z,[d7 1 gv (c4 cH) r.1]),(Z,[c5 r.2])]) [(c9,cW 5 1 r.1)]:=dc<|hu 10 [] 2 h BR λh=>dK 2 1<|jf 8 c9 0 [] h S4 λd h=>Bo 2 8 5 1 (c4 cH) h λb h=>i7 J<|dN 0 [[2]] [(12,c9)] M h am6 λg h=>dj 3 (eE [2,3] [(12,c9)])<|cJ 1 h
def Ai(a:fs)(i:Int)(j:fj)(k:E Int)(d:eR):X (E Int×Int×Bool×eR×Int×E (E Int)):=O (nO a.n.gS.h1) λm=>O (Im d (hd.mk i Z Z Z a.n.dx a.n.gS.o2 j m 0 0 k ([]:E Int)) 1) λb=>cond (b.2.2 !=0) (B ((([]:E Int),0,Z,d,U cH (a.n.dx+1),a.eL)))<|O (zW b.2.1) λg=>cond (g.2 !=0) (B ((([]:E Int),0,Z,d,U cH (a.n.dx+1),a.eL)))<|O (ej 24 a.eL (cQ.cL .c_ ([g.1]:E (E Int)))) λl=>B ((g.1,b.2.1.eJ,T,b.1,U cH (a.n.dx+1),l))
def wr(a:fs)(b:Int)(d:fj)(g:E Int):X (E Int×Int×Bool×eR×Int×E (E Int)):=cond (a.n.dl.eJ==a.n.dl.h3) (O (zY a.n.dl 65536) λi=>cond (i.2==0) ((Ai a b d g) i.1)<|(Ai a b d g) a.n.dl)<|(Ai a b d g) a.n.dl
abbrev oi:E (Nat×Nat):=[(80,700013),(81,700014)]
abbrev Rm:E (Nat×Nat):=[(600000,900000),(1000000,1000000),(700013,700013),(700011,700011),(700012,700012)]
def GM{a b d g}(r)(h:wr a b d g=B r):ei 185 [eO df,cS b,dP fj.cs d,dJ 1 (c4 cH) g] (iU a) (.eu [(Z,[d7 1 gv (c4 cH) r.1]),(Z,[hL r.2.1]),(Z,[gR r.2.2.1])]) [(q0 ({a with n.dl:=r.2.2.2.1,n.dx:=r.2.2.2.2.1,eL:=r.2.2.2.2.2})),(eF,cW 30 1 r.2.2.2.2.2),(fY,cW 77 45 a.im),(e0,d5 183 5 es.cs a.n.ex),(c9,cW 5 1 r.1)]:=dc<|fR 7 (cX [0,1,3,6] [df,6,e0,eF,fY]) (λi=>[]) (λi=>[(df,.box<|eT oi<|gw [(64,.dk e0)]<|fs.cs<|{a with n.dl:=i,n.ex:=[]})]) (Ai a b d g) r (λi h=>dK 1 19<|d0 0 h vR λm h=>dG 4 14<|dK 0 6<|dC h λk j h=>pN [[],qi] ((qo [[18,0,0,0,7],qi] ani) k j) J J<|dG 9 6<|c7 0 [90] [] h (λh=>f9 6 8 c8 5 1<|dj 0 (eE [8,9,10] Rm)<|cJ 2 h) λh=>dN 4 [] [(93,c9)] M h abW λo h=>c7 12 [97] [] h (λh=>f9 6 8 c8 5 1<|dj 0 (eE [8,9,10] Rm)<|cJ 2 h) λh=>jL 18 109 30 1 (jK 1<|c4 cH) [2] 0 eF h λl h=>dK 5 6<|dG 0 0<|dj 0 (eE [8,9,10] [(93,c9),(df,df),(e0,e0),(eF,eF),(fY,fY)])<|cJ 1 h)<|dK 1 13<|dG 0 0<|c7 0 [30] [] h (λh=>dN 7 [] [(37,c9),(c8,j4)] M h abZ λp h=>c7 12 [41] [] h (λh=>h5 8 ⟨[(0,[]),(1,[]),(3,[]),(6,[])],[(df,(df,(l0 37 [18,0,0,0,7]))),(6,(6,[])),(e0,(e0,[])),(eF,(eF,[])),(fY,(fY,[]))]⟩ h) λh=>dQ 1 h) λh=>dQ 1 h
def Jp(a:eR×Int×E (E Int)×E es):X (Int×eR×Int×E es×E (E Int)):=B ((0,a.1,a.2.1,a.2.2.2,a.2.2.1))
def Dv(a:fs)(d:Int)(g:E Int):X (Int×eR×Int×E es×E (E Int)):=cond (decide ((F a.n.ex:Int)>=32)) (B ((10,a.n.dl,a.n.dx,a.n.ex,a.eL)))<|O (nO d) λj=>O (wr a 1 j g) λb=>cond b.2.2.1 (O (nN b.1) λk=>O (tz a.now 3) λl=>O (ej 56 (f5 (F a.n.ex) a.n.ex) (cQ.cL .c_ ([(es.mk d b.2.1 k 3 l)]:E es))) λi=>(Jp) (b.2.2.2.1,b.2.2.2.2.1,b.2.2.2.2.2,i))<|(Jp) (b.2.2.2.1,b.2.2.2.2.1,b.2.2.2.2.2,a.n.ex)
abbrev LP:=cX [] [1000000,700013,700012,700011]
abbrev kA:E (Nat×Nat):=[(1000000,1000000),(700011,700011),(700012,700012),(700013,700013)]
def acR{b d g}(r)(h:Dv b d g=B r):ei 307 [eO df,.c (d6 d),dJ 1 (c4 cH) g] (iU b) ((cS r.1)) (iU ({b with n.dl:=r.2.1,n.dx:=r.2.2.1,eL:=r.2.2.2.2,n.ex:=r.2.2.2.1})):=dc<|c7 15 [16] [] h (λh=>cJ 6 h) λh=>fR 1 LP (λa=>[]) (λa=>[(df,.box<|eT oi<|gw [(64,.dk e0)]<|fs.cs<|{b with n.dl:=a.1,n.dx:=a.2.1,n.ex:=[],eL:=a.2.2.1}),(e0,d5 183 5 es.cs a.2.2.2),(eF,cW 30 1 a.2.2.1)]) (Jp) r (λa h=>cJ 5 h)<|db 4 h vR λm h=>dj 1 (cX [0,1,2,6,10,11,12,13,15,16,18,19,20,21] [df,eF,fY,e0])<|hm 0 [] [(22,c9)] kA h GM λi h=>c7 12 [25,9,26] [] h (λh=>dK 0 9<|jf 36 c9 0 [[2]] h s2 λj h=>d0 4 h GW λk h=>fa 1<|o5 43 183 5 es.cs [0,0,2] ([(es.mk d i.2.1 j 3 k)]:E es) J J<|w2 0 e0 183 5 es.cs h λl h=>dG 4 0<|dQ 0 h) λh=>dQ 1 h
def CH(b:E Int)(a:(E fq)×Int×Int)(i j d:Int):X ((E fq×Int×Int)⊕((E fq))):=O (h4 1 d d) λg=>O (g2 b a.2.2 (F b:Int)) λk=>O (ej 48 a.1 (cQ.cL .c_ ([(fq.mk (F b:Int) i a.2.2 (k5 (fe g (0:Int)) 0 (F (cQ.cL .c_ (fe g (0:Int)))) (cQ.cL .c_ k)))]:E fq))) λl=>B (dV (l,U W (j-5),U W (a.2.2+d)))
def CI(b:E Int)(d g:Int)(a:(E fq)×Int×Int):X ((E fq×Int×Int)⊕((E fq))):=cond (decide (a.2.2<(F b:Int))) (cond (decide ((U W ((F b:Int)-a.2.2))>a.2.1)) ((CH b a d g) (U W (a.2.1-(hc a.2.1 8))))<|(CH b a d g) (U W ((F b:Int)-a.2.2)))<|B (du a.1)
def CG(a:E Int)(d b:Int):X (E fq×Int):=cond (decide ((F a:Int)<1)) M<|cond (decide ((F a:Int)>2047)) M<|cond (decide (b<13)) M<|O (dq (CI a d b) (([]:E fq),U W (b-4),0)) λg=>B ((g,0))
def anc{i j k}(r)(h:CG i j k=B r):ei 308 [dJ 1 (c4 cH) i,kX j,cS k] [] (.eu [(Z,[d7 4 gv fq.cs r.1]),(Z,[c5 r.2])]) [(c9,cW 282 4 r.1)]:=dc<|gF 12 [15,16] [] h λh=>eI 5 [19,20] [] h λh=>eI 7 [22] [] h λh=>f9 17 8 c8 282 4<|eQ 0 h (cX [0,1,2,8,9,10] [c8]) (λb=>[(8,.c<|d7 4 e8 fq.cs b.1),(9,cS b.2.1),(10,cS b.2.2)]) (λb=>[(c8,cW 282 4 b.1)]) 0 (cX [8] [c8]) (λg=>[(8,.c<|d7 4 e8 fq.cs g)]) (λg=>[(c8,cW 282 4 g)]) (λb a h=>c7 8 [28] [] h (λh=>fR 10 (cX [0,1,2,8,10,11] [c8]) (λd=>[(11,cS d)]) (λd=>[]) (CH i b j k) a (λd h=>dC h λp m h=>cV 3<|qI 41 5 1 (c4 cH) (0:Int) [] (d:=[da 0]) (s:=d) (c:=d) m J J J<|kh 7 (c4 cH) 1 h λo h=>let l:=(fe p (0:Int));yH 41 5 1 (F l) 0 (c4 cH) gs (s:=l) (d:=o) .c_ .c_ J J<|dD 10 41<|jL 0 54 282 4 fq.cs [0,0,0,2] 0 c8 h λq h=>ey 15 h)<|c7 6 [35] [] h (λh=>dQ 7 h) λh=>dQ 1 h) λh=>eo 2 h) λg h=>dj 7 (eE [6,7] [(c8,c9)])<|cJ 1 h
def CF(a:fq)(d:E Int):X (E Int×Int):=O (ej 1 d (cQ.cL .c_ a.gA)) λb=>B ((b,0))
def CE(a:fq)(d:Int):X (E Int×Int):=O (hy [] (U cZ (U W (d+a.iY))) 2) λg=>O (hy g (U cZ a.eA) 2) λb=>cond (decide (a.iX>0)) (O (hy b (U cZ (hf W a.iX 8)) 1) λi=>(CF a) i)<|(CF a) b
def If(a:fq):X (E Int×Int):=O (uI a) λb=>cond b (cond (decide (a.iX>0)) ((CE a) 57344)<|(CE a) 49152) M
def ana{a}(r)(h:If a=B r):ei 309 [dP fq.cs a] [] (.eu [(Z,[d7 1 gv (c4 cH) r.1]),(Z,[c5 r.2])]) [(c9,cW 5 1 r.1)]:=dc<|hu 10 [] 2 h BQ λh=>fR 5 (cX [1,4] [1]) (λd=>[(4,cS d)]) (λd=>[]) (CE a) r (λd h=>dN 7 [[2]] [(17,c9)] M h ib λi h=>dN 8 [[2]] [(22,c9)] M h ib λj h=>fR 2 (cX [1,5] [1,22]) (λb=>[(5,.c<|d7 1 24 (c4 cH) b)]) (λb=>[(22,cW 5 1 b)]) (CF a) r (λb h=>nm 5 22 5 1 (c4 cH) h λg h=>dj 3 (eE [2,3] [(22,c9)])<|cJ 1 h)<|c7 6 [25] [] h (λh=>dN 6 [[2]] [(31,c9)] M h ib λk h=>h5 2 (eE [1,5] [(1,1),(31,22)]) h) λh=>dQ 1 h)<|c7 6 [11] [] h (λh=>dQ 3 h) λh=>dQ 1 h
def Jm(b:Int×eR×Int×E (E Int)×E es)(a:eR×Int×E (E Int)×E es):X ((Int×eR×Int×E (E Int)×E es)⊕((eR×Int×E (E Int)×E es)⊕(Int×eR×Int×Int×E es×E (E Int)))):=B (dV (U W (b.1+1),a.1,a.2.1,a.2.2.1,a.2.2.2))
def Wd(i:(E fq)×Int)(d:fs)(j:Int)(a:Int×eR×Int×E (E Int)×E es):X ((Int×eR×Int×E (E Int)×E es)⊕((eR×Int×E (E Int)×E es)⊕(Int×eR×Int×Int×E es×E (E Int)))):=cond (decide (a.1<(F i.1:Int))) (O (di i.1 a.1) λk=>O (If k) λg=>cond (g.2 !=0) ((Jm a) (a.2.1,a.2.2.1,a.2.2.2.1,a.2.2.2.2))<|O (Dv ({d with n.dl:=a.2.1,n.dx:=a.2.2.1,n.eA:=U fW (d.n.eA+1),n.ex:=a.2.2.2.2,eL:=a.2.2.2.1}) j g.1) λb=>cond (b.1 !=0) (B (du (du (b.1,b.2.1,b.2.2.1,U fW (d.n.eA+1),b.2.2.2.1,b.2.2.2.2))))<|(Jm a) (b.2.1,b.2.2.1,b.2.2.2.2,b.2.2.2.1))<|B (du (dV (a.2.1,a.2.2.1,a.2.2.2.1,a.2.2.2.2)))
def Jl(a:fs)(l:l7)(m:ee)(g:Int):X (Int×eR×Int×Int×E es×E (E Int)):=O (nO a.n.gS.h1) λo=>O (nO g) λp=>O (CA m o p a.n.gS.m0 a.now) λi=>cond (i.2 !=0) (B ((i.2,a.n.dl,a.n.dx,a.n.eA,a.n.ex,a.eL)))<|O (Dl l i.1) λj=>cond (decide ((F j:Int)<=95)) (O (Dv a g j) λb=>B ((b.1,b.2.1,b.2.2.1,a.n.eA,b.2.2.2.1,b.2.2.2.2)))<|O (CG j a.n.eA 95) λk=>cond (k.2 !=0) (B ((k.2,a.n.dl,a.n.dx,U fW (a.n.eA+1),a.n.ex,a.eL)))<|(dq (Wd k a g) (0,a.n.dl,a.n.dx,a.eL,a.n.ex)).bind (ku (λd=>B ((0,d.1,d.2.1,U fW (a.n.eA+1),d.2.2.2,d.2.2.1))) (λq=>B q))
def apa{d j k l}(r)(h:Jl d j k l=B r):ei 213 [eO df,dP l7.cs j,dP ee.cs k,.c (d6 l)] (iU d) ((cS r.1)) (iU ({d with n.dl:=r.2.1,n.dx:=r.2.2.1,n.eA:=r.2.2.2.1,eL:=r.2.2.2.2.2,n.ex:=r.2.2.2.2.1})):=dc<|dK 7 7<|d0 0 h vR λq h=>d0 1 h vR λu h=>jf 39 c9 10 [] h am8 λx h=>dG 5 6<|c7 0 [43] [] h (λh=>cJ 7 h) λh=>dN 5 [[],[2]] [(47,c9)] M h anJ λy h=>c7 9 [50] [] h (λh=>hm 5 [[],[],[2]] [] kA h acR λz h=>cJ 4 h) λh=>dN 9 [[2]] [(62,c9)] M h anc λA h=>c7 25 [75] [] h (λh=>cJ 7 h) λh=>lY 9 h (cX [0,3,77,78,79] [df,62,e0,eF,fY]) (λb=>[(79,cS b.1)]) (λb=>[(df,.box<|eT oi<|gw [(64,.dk e0)]<|fs.cs<|{d with n.dl:=(eR.mk b.2.1.jj b.2.1.eJ b.2.1.h3 b.2.1.it b.2.1.d8),n.dx:=b.2.2.1,n.eA:=U fW<|d.n.eA+1,n.ex:=[],eL:=b.2.2.2.1}),(e0,d5 183 5 es.cs b.2.2.2.2),(eF,cW 30 1 b.2.2.2.1)]) 0 LP (λg=>[]) (λg=>[(df,.box<|eT oi<|gw [(64,.dk e0)]<|fs.cs<|{d with n.dl:=g.1,n.dx:=g.2.1,n.eA:=U fW<|d.n.eA+1,n.ex:=[],eL:=g.2.2.1}),(e0,d5 183 5 es.cs g.2.2.2),(eF,cW 30 1 g.2.2.1)]) (λC m b a h o=>c7 5 [80] [] h (λh=>fR 1 (cX [0,3,77,78,79] [df,62,e0,fY,eF]) (λi=>[]) (λi=>[(df,.box<|eT oi<|gw [(64,.dk e0)]<|fs.cs<|{d with n.dl:=i.1,n.dx:=i.2.1,n.eA:=U fW<|d.n.eA+1,n.ex:=[],eL:=i.2.2.1}),(e0,d5 183 5 es.cs i.2.2.2),(eF,cW 30 1 i.2.2.1)]) (Jm b) a (λi h=>ey 4 h)<|e5 3 fq.cs h λp h=>dN 7 [] [(85,c9)] M h ana λs h=>c7 12 [89] [] h (λh=>dQ 3 h) λh=>hm 6 [[],[],[2]] [] kA h acR λt h=>c7 7 [95] [] h (λh=>cV 7<|tQ J<|iB 0 h o m λh=>cJ 2 h) λh=>dQ 2 h) λh=>eo 2 h) λg h=>cJ 6 h
def Ah(b:fs)(a:l7)(d:ee)(g:Int):X (E gP):=O (xZ d) λj=>O (ej 136 b.im (cQ.cL .c_ ([(gP.mk 3 a.oY a.ga 0 j [] g)]:E gP))) λi=>B (i)
def Tn{a b d g}(r)(h:Ah a b d g=B r):ei 210 [eO df,dP l7.cs b,dP ee.cs d,cS g] (iU a) (.eu []) (iU ({a with im:=r})):=dc<|cV 5<|nU<|dK 0 10<|jf 18 wD 0 [] h M8 λj h=>fa 2<|pR 21 77 45 gP.cs LR 0 fY h λi h=>dG 3 1<|cJ 0 h
def Dy(d:fs)(b:l7)(g:ee)(l:Int×c0×Int)(a:Int×eR×Int×Int×E (E Int)×c0×E es):X (eR×Int×Int×E es×E (E Int)×E gP):=cond (a.1 !=0) (O (Ah ({d with n.dl:=a.2.1,n.dx:=a.2.2.1,n.eA:=a.2.2.2.1,n.ex:=a.2.2.2.2.2.2,eL:=a.2.2.2.2.1}) ({b with c3:=a.2.2.2.2.2.1}) g a.1) λj=>B ((a.2.1,a.2.2.1,a.2.2.2.1,a.2.2.2.2.2.2,a.2.2.2.2.1,j)))<|O (xZ g) λk=>O (ej 136 d.im (cQ.cL .c_ ([(gP.mk 2 b.oY b.ga l.1 k [] 0)]:E gP))) λi=>B ((a.2.1,a.2.2.1,a.2.2.2.1,a.2.2.2.2.2.2,a.2.2.2.2.1,i))
def Jt(b:Int×c0×Int)(a:fs)(g:l7)(i:ee)(j:Unit):X (eR×Int×Int×E es×E (E Int)×E gP):=cond (b.2.2==0) (O (Jl a ({g with c3:=b.2.1}) i b.1) λd=>(Dy a g i b) (d.1,d.2.1,d.2.2.1,d.2.2.2.1,d.2.2.2.2.2,b.2.1,d.2.2.2.2.1))<|(Dy a g i b) (b.2.2,a.n.dl,a.n.dx,a.n.eA,a.eL,g.c3,a.n.ex)
def Dx(a:fs)(b:ee)(g:l7)(i:Bool×c0):X (eR×Int×Int×E es×E (E Int)×E gP):=O (JQ a.n.dW a.now b.dU b.ed i.2 i.1) λd=>cond (d.2.2==0) (cond (d.1==0) M<|(Jt d a g b) ())<|(Jt d a g b) ()
def Dw(a:fs)(d:l7)(b:ee)(g:Bool):X (eR×Int×Int×E es×E (E Int)×E gP):=O (Du a b.ed) λi=>cond i (cond (b.Next==41) M<|O (Pw a d b) λl=>B ((a.n.dl,a.n.dx,a.n.eA,a.n.ex,a.eL,l)))<|O (IR a.n.oJ a.now b.ed) λm=>cond m.2 M<|cond g (O (rm b.ed d.c3.ed.fu) λj=>O (rm b.dU d.c3.dU.fu) λk=>(Dx a b d) (T,{d.c3 with ed:=j,dU:=k}))<|(Dx a b d) (Z,(c0.mk (eW.mk eP 0) (eW.mk eP 0) 0))
def acS{d g i m}(r)(h:Dw d g i m=B r):ei 100 [eO df,dP l7.cs g,dP ee.cs i,e4 m] (iU d) (.eu []) (iU ({d with n.dl:=r.1,n.dx:=r.2.1,n.eA:=r.2.2.1,eL:=r.2.2.2.2.1,im:=r.2.2.2.2.2,n.ex:=r.2.2.2.1})):=dc<|hm 11 [] [] kA h acQ λt h=>eN h (λaJ G=>by subst aJ;exact dt 1<|eI 7 [25] [] G λG=>hm 6 [] [] kA G ao_ λC G=>cJ 3 G) λaJ a=>by subst aJ;exact dt 1<|dK 9 11<|d0 0 a ao1 λD a=>dG 6 4<|gF 0 [59,12,60,61] [] a λa=>dt 5<|fR 5 (cX [0,3,5,6,10,15] [df,5,6,10,15,e0,eF,fY]) (λk=>[(3,e4 k.1)]) (λk=>[(15,.box<|c0.cs k.2)]) (Dx d i g) r (λk a=>dK 1 15<|d0 0 a apo λo a=>dG 8 0<|fR 0 (cX [0,5,6,10,16,17,18] [df,5,6,10,17,e0,eF,fY]) (λp=>[]) (λp=>[]) (Jt o d g i) r (λp a=>fR 0 (cX [0,5,6,10,16,18] [df,5,6,10,e0,fY,eF]) (λb=>[(18,cS b.1)]) (λb=>[(df,.box<|eT oi<|gw [(64,.dk e0)]<|fs.cs<|{d with n.dl:=b.2.1,n.dx:=b.2.2.1,n.eA:=b.2.2.2.1,n.ex:=[],eL:=b.2.2.2.2.1}),(5,.box<|l7.cs<|{g with c3:=b.2.2.2.2.2.1}),(e0,d5 183 5 es.cs b.2.2.2.2.2.2),(eF,cW 30 1 b.2.2.2.2.1)]) (Dy d g i o) r (λb a=>c7 6 [150] [] a (λa=>hm 6 [] [] kA a Tn λu a=>cJ 3 a) λa=>cV 1<|nU<|dK 0 11<|jf 167 wD 0 [] a M8 λx a=>fa 1<|pR 169 77 45 gP.cs LR 0 fY a λs a=>dG 3 1<|cJ 0 a)<|c7 5 [141] [] a (λa=>hm 11 [] [] kA a apa λy a=>dQ 2 a) λa=>dQ 1 a)<|gp 5 [135,136] [] a (λa=>eI 4 [138,139] [] a λa=>dQ 1 a) λa=>dt 4<|dQ 1 a)<|eN a (λl j=>by subst l;exact dt 4<|dK 0 6<|d0 0 j GQ λz j=>d0 6 j GQ λA j=>dG 5 0<|dQ 0 j) λl q=>by subst l;exact dt 4<|dQ 1 q
def WD(a:E (E Int)):X (E (E Int)):=O (ej 16 (f5 (F ([]:E (E Int))) ([]:E (E Int))) (cQ.cL .c_ a)) λb=>B (b)
def aoo{g}(d)(i:WD g=B d):ei 122 [dJ 16 (ek cH 16) g] [] (.c (.dk c9)) [(c9,d5 49 16 (ek cH 16) d)]:=let j:=49;let b:=16;let k:=(ek cH 16);qr
def KF(a:E gl):X (E gl):=O (ej 48 (f5 (F ([]:E gl)) ([]:E gl)) (cQ.cL .c_ a)) λb=>B (b)
def acd{g}(d)(i:KF g=B d):ei 116 [dJ 34 gl.cs g] [] (.c (.dk c9)) [(c9,d5 134 34 gl.cs d)]:=let j:=134;let b:=34;let k:=gl.cs;qr
def WB(a:E gj):X (E gj):=O (ej 48 (f5 (F ([]:E gj)) ([]:E gj)) (cQ.cL .c_ a)) λb=>B (b)
def aom{g}(d)(i:WB g=B d):ei 123 [dJ 20 gj.cs g] [] (.c (.dk c9)) [(c9,d5 136 20 gj.cs d)]:=let j:=136;let b:=20;let k:=gj.cs;qr
def Jc(a:ix):X ix:=O (WD a.m1) λb=>O (KF a.gu) λd=>O (WB a.m0) λg=>B ({a with m1:=b,gu:=d,m0:=g})
def anK{a}(r)(h:Jc a=B r):ei 69 [dP ix.cs a] [] (.agg ([d6 r.h1]++f0 cH r.hJ 0 16++f0 cH r.yv 0 16++[fm r.o2,.dk oU,.dk oV,.dk ob])) [(oU,d5 49 16 (ek cH 16) r.m1),(oV,d5 134 34 gl.cs r.gu),(ob,d5 136 20 gj.cs r.m0)]:=dc<|dN 9 [] [(5,c9)] M h aoo λb h=>dN 7 [] [(9,c9)] M h acd λd h=>dN 7 [] [(13,c9)] M h aom λg h=>dj 8 (eE [2] Zi)<|cJ 1 h
def P8(a:E h9):X (E h9):=O (ej 17 (f5 (F ([]:E h9)) ([]:E h9)) (cQ.cL .c_ a)) λb=>B (b)
def aor{g}(d)(i:P8 g=B d):ei 147 [dJ 17 h9.cs g] [] (.c (.dk c9)) [(c9,d5 171 17 h9.cs d)]:=let j:=171;let b:=17;let k:=h9.cs;qr
def P_(a:E e_):X (E e_):=O (ej 40 (f5 (F ([]:E e_)) ([]:E e_)) (cQ.cL .c_ a)) λb=>B (b)
def aot{g}(d)(i:P_ g=B d):ei 148 [dJ 6 e_.cs g] [] (.c (.dk c9)) [(c9,d5 246 6 e_.cs d)]:=let j:=246;let b:=6;let k:=e_.cs;qr
def yg(a:E fh):X (E fh):=O (ej 56 (f5 (F ([]:E fh)) ([]:E fh)) (cQ.cL .c_ a)) λb=>B (b)
def S8{g}(d)(i:yg g=B d):ei 247 [dJ 8 fh.cs g] [] (.c (.dk c9)) [(c9,d5 375 8 fh.cs d)]:=let j:=375;let b:=8;let k:=fh.cs;qr
def tE(a:E eh):X (E eh):=O (ej 80 (f5 (F ([]:E eh)) ([]:E eh)) (cQ.cL .c_ a)) λb=>B (b)
def Nb{g}(d)(i:tE g=B d):ei 248 [dJ 38 eh.cs g] [] (.c (.dk c9)) [(c9,d5 378 38 eh.cs d)]:=let j:=378;let b:=38;let k:=eh.cs;qr
def wz(a:E dL):X (E dL):=O (ej 88 (f5 (F ([]:E dL)) ([]:E dL)) (cQ.cL .c_ a)) λb=>B (b)
def Na{g}(d)(i:wz g=B d):ei 249 [dJ 39 dL.cs g] [] (.c (.dk c9)) [(c9,d5 260 39 dL.cs d)]:=let j:=260;let b:=39;let k:=dL.cs;qr
def P6(a:E dH):X (E dH):=O (ej 96 (f5 (F ([]:E dH)) ([]:E dH)) (cQ.cL .c_ a)) λb=>B (b)
def aop{g}(d)(i:P6 g=B d):ei 250 [dJ 40 dH.cs g] [] (.c (.dk c9)) [(c9,d5 264 40 dH.cs d)]:=let j:=264;let b:=40;let k:=dH.cs;qr
def yj(a:E eq):X (E eq):=O (ej 96 (f5 (F ([]:E eq)) ([]:E eq)) (cQ.cL .c_ a)) λb=>B (b)
def Ta{g}(d)(i:yj g=B d):ei 251 [dJ 40 eq.cs g] [] (.c (.dk c9)) [(c9,d5 382 40 eq.cs d)]:=let j:=382;let b:=40;let k:=eq.cs;qr
def P3(a:E dB):X (E dB):=O (ej 72 (f5 (F ([]:E dB)) ([]:E dB)) (cQ.cL .c_ a)) λb=>B (b)
def aoi{g}(d)(i:P3 g=B d):ei 252 [dJ 37 dB.cs g] [] (.c (.dk c9)) [(c9,d5 397 37 dB.cs d)]:=let j:=397;let b:=37;let k:=dB.cs;qr
end
section
attribute [local irreducible] TS go TD goD
def Je(a:fH):X fH:=O (KF a.gu) λb=>O (yg a.eg) λd=>O (tE a.gT) λg=>O (wz a.gX) λi=>O (P6 a.hh) λj=>O (yj a.hj) λk=>O (P3 a.gI.fJ) λl=>B ((fH.mk a.hr a.dx a.j7 a.gH a.i3 a.jk b d g i j k ({a.gI with fJ:=l})))
def anM{a}(r)(h:Je a=B r):ei 149 [dP fH.cs a] [] (.agg [d6 r.hr,fm r.dx,c5 r.j7,c5 r.gH,fm r.i3,c5 r.jk,.dk mj,.dk 900007,.dk rv,.dk 900009,.dk 900010,.dk 900011,.dk 900012,c5 r.gI.oQ]) [(mj,d5 134 34 gl.cs r.gu),(900007,d5 375 8 fh.cs r.eg),(rv,d5 378 38 eh.cs r.gT),(900009,d5 260 39 dL.cs r.gX),(900010,d5 264 40 dH.cs r.hh),(900011,d5 382 40 eq.cs r.hj),(900012,d5 397 37 dB.cs r.gI.fJ)]:=dc<|dN 9 [] [(5,c9)] M h acd λb h=>dN 7 [] [(9,c9)] M h S8 λd h=>dN 7 [] [(13,c9)] M h Nb λg h=>dN 7 [] [(17,c9)] M h Na λi h=>dN 7 [] [(21,c9)] M h aop λj h=>dN 7 [] [(25,c9)] M h Ta λk h=>dN 8 [] [(30,c9)] M h aoi λl h=>dj 9 (eE [2] YH)<|cJ 1 h
def Pn(b:E eG)(a:Int×E eG):X ((Int×E eG)⊕((E eG))):=cond (decide (a.1<(F b:Int))) (O (di b a.1) λd=>O (Do d) λi=>O (ej 96 (f5 (F a.2) a.2) (cQ.cL .c_ ([i]:E eG))) λg=>B (dV (U W (a.1+1),g)))<|B (du a.2)
def Jg(a:E eG):X (E eG):=O (h4 96 0 (F a:Int)) λd=>O (dq (Pn a) (0,(fe d ((eG.mk (fj.mk 0 0 0) (fj.mk 0 0 0) 0 0 [] 0):eG)))) λb=>B (b)
def anP{d}(r)(h:Jg d=B r):ei 150 [dJ 10 eG.cs d,.c (.cY (.func (.func 151) #[] #[]))] [] (.c (.dk c9)) [(c9,d5 268 10 eG.cs r)]:=dc<|dC h λm i h=>cV 8<|qI 10 268 10 eG.cs (Rq:eG) A5 (d:=[c5 0,fm 0,d6 0,c5 0,fm 0,d6 0,fm 0,c5 0,ia,c5 0]) (s:=0) (c:=(F d:Int)) i J J J<|eQ 10 h vk (λb=>[(13,cS b.1)]) (λb=>[(10,d5 268 10 eG.cs b.2)]) 0 vl (λg=>[]) (λg=>[(10,d5 268 10 eG.cs g)]) (λb a h=>c7 5 [14] [] h (λh=>e5 5 eG.cs h λl h=>dN 8 [] [(20,rv)] M h ab8 λj h=>i1 0 21 268 10 eG.cs A5 ([j]:E eG)<|o9 0 10 268 10 eG.cs h λk h=>ey 7 h) λh=>eo 2 h) λg h=>dj 6 tS<|cJ 1 h
def Pu(b:E es)(a:Int×E es):X ((Int×E es)⊕((E es))):=cond (decide (a.1<(F b:Int))) (O (di b a.1) λd=>O (Dp d) λi=>O (ej 56 (f5 (F a.2) a.2) (cQ.cL .c_ ([i]:E es))) λg=>B (dV (U W (a.1+1),g)))<|B (du a.2)
def Jj(a:E es):X (E es):=O (h4 56 0 (F a:Int)) λd=>O (dq (Pu a) (0,(fe d ((es.mk 0 0 [] 0 0):es)))) λb=>B (b)
def anW{d}(r)(h:Jj d=B r):ei 154 [dJ 5 es.cs d,.c (.cY (.func (.func 155) #[] #[]))] [] (.c (.dk c9)) [(c9,d5 183 5 es.cs r)]:=dc<|dC h λm i h=>cV 8<|qI 10 183 5 es.cs (LJ:es) [0,0,2] (d:=[d6 0,hL 0,ia,c5 0,c5 0]) (s:=0) (c:=(F d:Int)) i J J J<|eQ 10 h vk (λb=>[(13,cS b.1)]) (λb=>[(10,d5 183 5 es.cs b.2)]) 0 vl (λg=>[]) (λg=>[(10,d5 183 5 es.cs g)]) (λb a h=>c7 5 [14] [] h (λh=>e5 5 es.cs h λl h=>dN 8 [] [(20,gv)] M h ab9 λj h=>i1 0 21 183 5 es.cs [0,0,2] ([j]:E es)<|o9 0 10 183 5 es.cs h λk h=>ey 7 h) λh=>eo 2 h) λg h=>dj 6 tS<|cJ 1 h
def af9(a:E hR)(b:Unit):X (Unit⊕Unit):=cond (decide (0<(F a:Int))) M<|B (du ())
def Pt(a:E hR):X (E hR):=O (h4 40 0 (F a:Int)) λb=>O (dq (af9 a) ()) λd=>B ((fe b ((hR.mk 0 0 ([]:E yE)):hR)))
def anU{b}(r)(h:Pt b=B r):ei 156 [dJ 3 hR.cs b,.c (.cY (.func (.func 157) #[] #[]))] [] (.c (.dk c9)) [(c9,d5 274 3 hR.cs r)]:=dc<|dC h λj i h=>cV 8<|qI 10 274 3 hR.cs ((hR.mk 0 0 []):hR) [0,0,12] (d:=[d6 0,c5 0,ia]) (s:=0) (c:=(F b:Int)) i J J J<|eQ 10 h vk (λg=>[]) (λg=>[]) 0 vl (λd=>[]) (λd=>[]) (λg a h=>eI 5 [14] [] h λh=>eo 2 h) λd h=>dj 6 tS<|cJ 1 h
def af7(a:E kl)(b:Unit):X (Unit⊕Unit):=cond (decide (0<(F a:Int))) M<|B (du ())
def Pq(a:E kl):X (E kl):=O (h4 40 0 (F a:Int)) λb=>O (dq (af7 a) ()) λd=>B ((fe b ((kl.mk 0 0 ([]:E Int)):kl)))
def anR{b}(r)(h:Pq b=B r):ei 160 [dJ 3 kl.cs b,.c (.cY (.func (.func 161) #[] #[]))] [] (.c (.dk c9)) [(c9,d5 228 3 kl.cs r)]:=dc<|dC h λj i h=>cV 8<|qI 10 228 3 kl.cs ((kl.mk 0 0 []):kl) [0,0,2] (d:=[d6 0,c5 0,ia]) (s:=0) (c:=(F b:Int)) i J J J<|eQ 10 h vk (λg=>[]) (λg=>[]) 0 vl (λd=>[]) (λd=>[]) (λg a h=>eI 5 [14] [] h λh=>eo 2 h) λd h=>dj 6 tS<|cJ 1 h
def P5(a:E iw):X (E iw):=O (ej 48 (f5 (F ([]:E iw)) ([]:E iw)) (cQ.cL .c_ a)) λb=>B (b)
def aok{g}(d)(i:P5 g=B d):ei 162 [dJ 34 iw.cs g] [] (.c (.dk c9)) [(c9,d5 68 34 iw.cs d)]:=let j:=68;let b:=34;let k:=iw.cs;qr
def x0(a:d3):X d3:=O (Jc a.gS) λb=>O (P8 a.dl.jj) λg=>O (P_ a.dl.d8) λi=>O (Je a.dW) λj=>O (Jg a.g1) λk=>O (Jj a.ex) λl=>O (Pt a.ni) λm=>O (Cy a.j9.gA) λo=>O (Pq a.pL) λp=>O (P5 a.oJ) λd=>B ((d3.mk b ({a.dl with jj:=g,d8:=i}) a.dx a.jx a.eA a.ga a.rl a.tw a.o4 j k l m ({a.j9 with gA:=o}) p d))
def M9{a}(r)(h:x0 a=B r):ei 79 [dP d3.cs a] [] (.agg ([d6 r.gS.h1]++f0 cH r.gS.hJ 0 16++f0 cH r.gS.yv 0 16++[fm r.gS.o2,.dk oU,.dk oV,.dk ob,.dk oc,hL r.dl.eJ,hL r.dl.h3,hL r.dl.it,.dk oW,da r.dx,gR r.jx,fm r.eA,hL r.ga,c5 r.rl,c5 r.tw,c5 r.o4,d6 r.dW.hr,fm r.dW.dx,c5 r.dW.j7,c5 r.dW.gH,fm r.dW.i3,c5 r.dW.jk,.dk oX,.dk tI,.dk sx,.dk u2,.dk u3,.dk wE,.dk tJ,c5 r.dW.gI.oQ,.dk sy,.dk 920064,.dk 920065,c5 r.j9.vi,.dk 920067]++f0 cH r.j9.eA 0 8++[.dk 920076,.dk 920077])) [(oU,d5 49 16 (ek cH 16) r.gS.m1),(oV,d5 134 34 gl.cs r.gS.gu),(ob,d5 136 20 gj.cs r.gS.m0),(oc,d5 171 17 h9.cs r.dl.jj),(oW,d5 246 6 e_.cs r.dl.d8),(oX,d5 134 34 gl.cs r.dW.gu),(tI,d5 375 8 fh.cs r.dW.eg),(sx,d5 378 38 eh.cs r.dW.gT),(u2,d5 260 39 dL.cs r.dW.gX),(u3,d5 264 40 dH.cs r.dW.hh),(wE,d5 382 40 eq.cs r.dW.hj),(tJ,d5 397 37 dB.cs r.dW.gI.fJ),(sy,d5 268 10 eG.cs r.g1),(920064,d5 183 5 es.cs r.ex),(920065,d5 274 3 hR.cs r.ni),(920067,d5 5 1 (c4 cH) r.j9.gA),(920076,d5 228 3 kl.cs r.pL),(920077,d5 68 34 iw.cs r.oJ)]:=dc<|dN 9 [] Zf M h anK λb h=>dN 8 [] [(10,c9)] M h aor λg h=>dN 9 [] [(16,c9)] M h aot λi h=>dN 8 [] YI M h anM λj h=>dN 7 [] [(25,c9)] M h anP λk h=>dN 7 [] [(29,c9)] M h anW λl h=>dN 7 [] [(33,c9)] M h anU λm h=>dN 8 [] [(38,c9)] M h abV λo h=>dN 8 [] [(43,c9)] M h anR λp h=>dN 7 [] [(47,c9)] M h aok λd h=>dj 8 (eE [2] YK)<|cJ 1 h
def I_(b:d3)(d:Int)(i:ee):X (d3×E (E Int)×E gP×Int):=O (uQ b) λj=>cond j (O (ws i) λk=>cond k (O (sp d) λl=>cond l (cond (d==1099511627776) M<|cond (decide (d<b.dW.gH)) (B (((d3.mk (ix.mk 0 eP eP 0 [] [] ([]:E gj)) (eR.mk [] 0 0 0 ([]:E e_)) 0 Z 0 0 0 0 0 (fH.mk 0 0 0 0 0 0 [] [] [] [] [] [] (h_.mk [] 0)) [] [] [] (kS.mk 0 [] [0,0,0,0,0,0,0,0]) [] ([]:E iw)),[],[],11)))<|O (x0 b) λg=>O (Dw (fs.mk ({g with ga:=U e9 (g.ga+1)}) d 0 [] ([]:E gP)) (l7.mk d b.gS.h1 b.ga (c0.mk (eW.mk eP 0) (eW.mk eP 0) 0)) i Z) λa=>B (({g with dl:=a.1,dx:=a.2.1,eA:=a.2.2.1,ga:=U e9 (g.ga+1),ex:=a.2.2.2.1},a.2.2.2.2.1,a.2.2.2.2.2,0))) M) M) M
abbrev Ys:E (Nat×Nat):=[(600012,920064),(600017,900064),(600018,900128),(6,6)]
abbrev Fo:E (Nat×Nat):=[(10,1000000),(600017,700011),(600018,700012),(600012,700013)]
abbrev rF:=l0 34 [17,35,21,18,0,0,0,7,0,0,0,0,0,0,0,0,0,0,0,0,0,35,9,39,40,41,41,38,0,11,0,4,0,2,0,0,0,0,0,0,0,0,4,35]
def anF{b d g}(r)(h:I_ b d g=B r):ei 52 [dP d3.cs b,cS d,dP ee.cs g] [] (.eu [(T,(eT [(64,920066)] (d3.cs r.1))),(Z,[d7 1 sA (jK 1 (c4 cH)) r.2.1]),(Z,[d7 45 900130 gP.cs r.2.2.1]),(Z,[c5 r.2.2.2])]) [(920064,cW 183 5 r.1.ex),(k4,cW 30 1 r.2.1),(900128,cW 77 45 r.2.2.1)]:=dc<|db 13 h BU λj h=>eX h λaJ G=>by subst aJ;exact hu 3 [] 3 G To λG=>db 5 G xd λl G=>eX G λi a=>by subst i;exact eI 6 [26,27] [] a λa=>c7 10 [33] [] a (λa=>cV 8<|ka 6 64 c8 183 5 J<|f9 0 7 eK 30 1<|f9 0 8 e8 77 45<|dj 0 (eE [6,7,8,9] [(c8,920064),(eK,k4),(e8,900128),(6,6)])<|cJ 2 a) λa=>dN 4 [] [(36,oU),(c8,oV),(eK,ob),(e8,oc),(g_,oW),(iW,oX),(kP,tI),(mC,sx),(nz,u2),(nA,u3),(nB,wE),(600010,tJ),(600011,sy),(600012,920064),(600013,920065),(600014,920067),(600015,920076),(600016,920077)] M a M9 λm a=>cV 31<|ka 10 80 600017 30 1 J<|ka 10 81 600018 77 45 J<|dD 0 36<|dD 0 c8<|dD 0 eK<|dD 0 e8<|dD 0 g_<|dD 0 iW<|dD 0 kP<|dD 0 mC<|dD 0 nz<|dD 0 nA<|dD 0 nB<|dD 0 600010<|dD 0 600011<|dD 0 600013<|dD 0 600014<|dD 0 600015<|dD 0 600016<|og 10 rF J<|dj 0 (cX [0,1,2,3,5,6,7,8,9,12,13,14,15,16,17,18,19,21,22,23,24,25,26,27,29,30,31,32,33,35,37,10,39,40,41,42,43,44,45,11,46,47,48,49,50,51,52,53] [3,5,6,36,c8,eK,e8,g_,iW,kP,mC,nz,nA,nB,600010,600011,600012,600013,600014,600015,600016,10,11,600017,600018])<|hm 0 [] [] Fo a acS λk a=>dK 2 10<|dG 0 0<|dD 0 600012<|dj 0 (eE [6,7,8,9] Ys)<|cJ 1 a
def uP(b:Int×E gm×E Int)(a:(E gm)×E Int):X ((Int×E gm×E Int)⊕(E gm×E Int)):=B (dV (U W (b.1+1),a.1,a.2))
def De(a:Int×E gm×E Int)(g:E Int)(d:i4)(b:Int×E Int):X ((Int×E gm×E Int)⊕(E gm×E Int)):=cond ((hc b.1 4)==3) ((uP a) (a.2.1,b.2))<|cond (decide ((F a.2.1:Int)>=1024)) ((uP a) (a.2.1,b.2))<|O (nN g) λj=>O (ej 40 a.2.1 (cQ.cL .c_ ([(gm.mk a.1 (if 1099511627776<U W ((U W (d.eC.fg+1))+(hc (hf W b.1 4) 3))then 1099511627776 else U W ((U W (d.eC.fg+1))+(hc (hf W b.1 4) 3))) j)]:E gm))) λi=>(uP a) (i,b.2)
def Wa(b:i4)(d:Int)(g:E Int)(a:Int×E gm×E Int):X ((Int×E gm×E Int)⊕(E gm×E Int)):=cond (decide (a.1<(F b.eC.fB:Int))) (cond (a.1==d) ((uP a) (a.2.1,a.2.2))<|O (di b.eC.hU a.1) λi=>cond i ((uP a) (a.2.1,a.2.2))<|O (di b.eC.eg d) λj=>O (di j a.1) λk=>cond k (cond (decide ((F a.2.2:Int)>0)) (O (di a.2.2 0) λl=>O (g2 a.2.2 1 (F a.2.2:Int)) λm=>(De a g b) (U W l,m))<|(De a g b) (0,a.2.2))<|(uP a) (a.2.1,a.2.2))<|B (du (a.2.1,a.2.2))
def V_(b:E (E Int))(g:i4)(i:Int)(a:Int×E gm×E Int):X ((Int×E gm×E Int)⊕(E gm×E Int)):=cond (decide (a.1<(F b:Int))) (O (di b a.1) λj=>O (dq (Wa g i j) (0,a.2.1,a.2.2)) λd=>B (dV (U W (a.1+1),d.1,d.2)))<|B (du (a.2.1,a.2.2))
def I8(a:i4)(d:Int)(g:E (E Int)):X (E gm×E Int):=O (dq (V_ g a d) (0,a.eC.hg,a.eC.jr)) λb=>B ((b.1,b.2))
abbrev pO:E (Nat×Nat):=[(4,700014),(6,700015)]
def ao7{d s t}(r)(h:I8 d s t=B r):ei 89 [eO df,cS s,dJ 1 (jK 1 (c4 cH)) t] [(df,.box (eT pO (gw [(1,.dk eF)] (i4.cs ({d with eC.fB:=([]:E d3)}))))),(eF,d5 120 78 d3.cs d.eC.fB),(fY,cW 139 3 d.eC.hg),(e0,cW 79 47 d.eC.fI)] (.eu []) [(df,.box (eT pO (gw [(1,.dk eF)] (i4.cs ({d with eC.fB:=([]:E d3),eC.hg:=r.1,eC.jr:=r.2}))))),(eF,d5 120 78 d3.cs d.eC.fB),(fY,cW 139 3 r.1),(e0,cW 79 47 d.eC.fI)]:=dc<|eQ 7 h (cX [0,1,11,12,13] [df,eF,fY,e0]) (λi=>[(13,cS i.1)]) (λi=>[(df,.box<|eT pO<|gw [(1,.dk eF)]<|i4.cs<|{d with eC.fB:=[],eC.hg:=i.2.1,eC.jr:=i.2.2}),(fY,cW 139 3 i.2.1)]) 0 (cX [] [df,eF,e0,fY]) (λj=>[]) (λj=>[(df,.box<|eT pO<|gw [(1,.dk eF)]<|i4.cs<|{d with eC.fB:=[],eC.hg:=j.1,eC.jr:=j.2}),(fY,cW 139 3 j.1)]) (λi a h=>c7 5 [14] [] h (λh=>e5 5 (jK 1<|c4 cH) h λu h=>eQ 14 h (cX [0,1,7,11,12,13,22,23] [df,eF,fY,e0]) (λg=>[(23,cS g.1)]) (λg=>[(df,.box<|eT pO<|gw [(1,.dk eF)]<|i4.cs<|{d with eC.fB:=[],eC.hg:=g.2.1,eC.jr:=g.2.2}),(fY,cW 139 3 g.2.1)]) 2 (cX [0,1,11,12,13] [df,eF,e0,fY]) (λk=>[]) (λk=>[(df,.box<|eT pO<|gw [(1,.dk eF)]<|i4.cs<|{d with eC.fB:=[],eC.hg:=k.1,eC.jr:=k.2}),(fY,cW 139 3 k.1)]) (λg a h=>c7 5 [24] [] h (λh=>fR 1 (cX [0,1,7,11,12,13,22,23] [df,eF,e0,fY]) (λm=>[]) (λm=>[(df,.box<|eT pO<|gw [(1,.dk eF)]<|i4.cs<|{d with eC.fB:=[],eC.hg:=m.1,eC.jr:=m.2}),(fY,cW 139 3 m.1)]) (uP g) a (λm h=>ey 4 h)<|gp 13 [28,29] [] h (λh=>dt 24<|dQ 3 h) λh=>e5 6 i0 h λz h=>eN h (λp G=>by subst p;exact dt 17<|dQ 3 G) λp l=>by subst p;exact e5 9 (jK 1 i0) l λA l=>e5 2 i0 l λC l=>eN l (λq b=>by subst q;exact dt 4<|fR 5 (cX [0,1,7,8,9,11,12,13,22,23] [df,eF,fY,e0]) (λo=>[(9,cS o.1)]) (λo=>[(df,.box<|eT pO<|gw [(1,.dk eF)]<|i4.cs<|{d with eC.fB:=[],eC.hg:=g.2.1,eC.jr:=o.2})]) (De g u d) a (λo b=>gp 7 [80,81] [] b (λb=>dt 9<|dQ 3 b) λb=>c7 9 [88,89] [] b (λb=>dQ 3 b) λb=>dK 16 9<|jf 110 c9 0 [] b s2 λP b=>fa 1<|let y:=((U W<|d.eC.fg+1)+(hc (hf W o.1 4) 3));pR 112 139 3 gm.cs [0,0,2] 0 fY b λK b=>dG 4 1<|dQ 0 b)<|c7 10 [59] [] b (λb=>e5 7 (c4 cH) b λD b=>kh 11 (c4 cH) 1 b λN b=>dQ 5 b) λb=>dQ 1 b) λq x=>by subst q;exact dt 4<|dQ 3 x) λh=>eo 2 h) λk h=>ey 6 h) λh=>eo 2 h) λj h=>cJ 1 h
def I3(a:Int×E gK)(b:E gK):X ((Int×E gK)⊕((E gK))):=B (dV (U W (a.1+1),b))
def V7(b:E gP)(d:i4)(g:Int)(a:Int×E gK):X ((Int×E gK)⊕((E gK))):=cond (decide (a.1<(F b:Int))) (O (di b a.1) λi=>cond (decide ((F a.2:Int)<4096)) (O (Df i) λk=>O (ej 152 a.2 (cQ.cL .c_ ([(gK.mk d.eC.fg g k)]:E gK))) λj=>(I3 a) j)<|(I3 a) a.2)<|B (du a.2)
def uO(a:i4)(b:Int)(d:d3)(j:E (E Int))(k:E gP)(g:Int):X (Int×i4):=cond (g !=0) (B ((g,a)))<|O (di (cQ.cL .c_ a.eC.fB) b) λm=>O (a.eC.fB[(0+cM b)]?) λo=>O (I8 ({a with eC.fB:=(ir a.eC.fB (0+cM b) d)}) b j) λi=>O (dq (V7 k a b) (0,a.eC.fI)) λl=>B ((0,(i4.mk (eZ.mk a.eC.fg (ir a.eC.fB (0+cM b) d) a.eC.eg a.eC.hU i.1 i.2 l))))
def Tj{d l b o p q}(r)(h:uO d l b o p q=B r):ei 48 [eO df,cS l,dP d3.cs b,dJ 1 (jK 1 (c4 cH)) o,dJ 45 gP.cs p,cS q] [(df,.box (eT pO (gw [(1,.dk eF)] (i4.cs ({d with eC.fB:=([]:E d3)}))))),(eF,d5 120 78 d3.cs d.eC.fB),(fY,cW 139 3 d.eC.hg),(e0,cW 79 47 d.eC.fI)] ((cS r.1)) [(df,.box (eT pO (gw [(1,.dk eF)] (i4.cs ({r.2 with eC.fB:=([]:E d3)}))))),(eF,d5 120 78 d3.cs r.2.eC.fB),(fY,cW 139 3 r.2.eC.hg),(e0,cW 79 47 r.2.eC.fI)]:=dc<|c7 11 [16] [] h (λh=>cJ 7 h) λh=>dK 2 7<|dC h λy s h=>ky eF 78 0 d3.cs .c_ s J J<|dC h λz t h=>rC eF 120 78 (F d.eC.fB) (0+cM l) 0 d3.cs (b:=([d6 b.gS.h1]++f0 cH b.gS.hJ 0 16++(f0 cH b.gS.yv 0 16++([fm b.gS.o2,eS 16 (ek cH 16) b.gS.m1,eS 34 gl.cs b.gS.gu,eS 20 gj.cs b.gS.m0,eS 17 h9.cs b.dl.jj,hL b.dl.eJ,hL b.dl.h3,hL b.dl.it,eS 6 e_.cs b.dl.d8,da b.dx,gR b.jx,fm b.eA,hL b.ga,c5 b.rl,c5 b.tw,c5 b.o4,d6 b.dW.hr,fm b.dW.dx,c5 b.dW.j7,c5 b.dW.gH,fm b.dW.i3,c5 b.dW.jk,eS 34 gl.cs b.dW.gu,eS 8 fh.cs b.dW.eg,eS 38 eh.cs b.dW.gT,eS 39 dL.cs b.dW.gX,eS 40 dH.cs b.dW.hh,eS 40 eq.cs b.dW.hj,eS 37 dB.cs b.dW.gI.fJ,c5 b.dW.gI.oQ,eS 10 eG.cs b.g1,eS 5 es.cs b.ex,eS 3 hR.cs b.ni,c5 b.j9.vi,eS 1 (c4 cH) b.j9.gA]++f0 cH b.j9.eA 0 8++[eS 3 kl.cs b.pL,eS 34 iw.cs b.oJ])))) b t J J J J<|dG 0 5<|dj 0 (cX [0,1,2,3,4,5,8,12,15,16,18,19,20,21,23,24,26,27,28] [df,eF,fY,e0,8])<|hm 0 [] [] kA h ao7 λi h=>let m:=(cX [0,1,30,31,32] [df,eF,fY,e0]);eQ 9 h m (λg=>[(32,cS g.1)]) (λg=>[(df,.box<|eT pO<|gw [(1,.dk eF)]<|i4.cs<|i4.mk<|eZ.mk d.eC.fg [] d.eC.eg d.eC.hU i.1 i.2 g.2),(e0,cW 79 47 g.2)]) 0 (cX [] [df,eF,fY,e0]) (λj=>[]) (λj=>[(df,.box<|eT pO<|gw [(1,.dk eF)]<|i4.cs<|i4.mk<|eZ.mk d.eC.fg [] d.eC.eg d.eC.hU i.1 i.2 j),(e0,cW 79 47 j)]) (λg a h=>c7 5 [33] [] h (λh=>fR 1 m (λk=>[]) (λk=>[(df,.box<|eT pO<|gw [(1,.dk eF)]<|i4.cs<|i4.mk<|eZ.mk d.eC.fg [] d.eC.eg d.eC.hU i.1 i.2 k),(e0,cW 79 47 k)]) (I3 g) a (λk h=>ey 4 h)<|e5 3 gP.cs h λA h=>c7 14 [42] [] h (λh=>dK 0 13<|dC h λx u h=>pN [] ((qo [LR] ab4) x u) J J<|fa 1<|pR 58 79 47 gK.cs (l0 44 [2,2]) 0 e0 h λC h=>dG 4 1<|dQ 0 h) λh=>dQ 2 h) λh=>eo 2 h) λj h=>cJ 6 h
def le:Code:=aj1 Tryz.f20
def z7(a:Int×i4×E d3):X (eZ×Int):=cond (a.1 !=0) (B (((eZ.mk 0 [] [] [] [] [] ([]:E gK)),a.1)))<|B (({a.2.1.eC with fB:=a.2.2},0))
def uN(g:i4)(d:pM)(a:(E (E Int))×E gP×Int×d3×E (E Bool)×E Bool):X (eZ×Int):=O (uO ({g with eC.eg:=a.2.2.2.2.1,eC.hU:=a.2.2.2.2.2}) d.A a.2.2.2.1 a.1 a.2.1 a.2.2.1) λb=>(z7) (b.1,{b.2 with eC.fB:=[]},b.2.eC.fB)
def z8(b:i4)(a:pM)(d:Int×d3):X (eZ×Int):=O (di (cQ.cL .c_ b.eC.hU) a.A) λg=>O (b.eC.hU[(0+cM a.A)]?) λi=>(uN b a) (([]:E (E Int)),[],d.1,d.2,b.eC.eg,(ir b.eC.hU (0+cM a.A) a.rx))
def n_(i:eZ)(a:pM):X (eZ×Int):=O (wo i a) λk=>cond (k !=0) (B (((eZ.mk 0 [] [] [] [] [] ([]:E gK)),k)))<|O (z_ i) λb=>cond (a.gi==10) (O (ej 1 (f5 (F b.eC.jr) b.eC.jr) (cQ.cL .c_ a.gA)) λp=>(z7) (0,{b with eC.fB:=[],eC.jr:=p},b.eC.fB))<|O (di (cQ.cL .c_ b.eC.fB) a.A) λu=>O (b.eC.fB[(0+cM a.A)]?) λd=>cond (a.gi==1) (O (di (cQ.cL .c_ b.eC.eg) a.A) λq=>O (b.eC.eg[(0+cM a.A)]?) λj=>O (di j a.eB) λs=>(uN b a) (([]:E (E Int)),[],0,d,(ir b.eC.eg (0+cM a.A) (ir j (cM a.eB) a.rx)),b.eC.hU))<|cond (a.gi==2) (O (I9 d b.eC.fg (U e9 a.ga)) λl=>(uN b a) (([]:E (E Int)),[],l.2,l.1,b.eC.eg,b.eC.hU))<|cond (a.gi==3) (O (di (cQ.cL .c_ b.eC.hU) a.A) λt=>O (b.eC.hU[(0+cM a.A)]?) λo=>cond o (cond a.rx ((z8 b a) (0,d))<|O (Jb d b.eC.fg) λm=>(z8 b a) (m.2,m.1))<|(z8 b a) (0,d))<|cond (a.gi==4) (O (I_ d b.eC.fg a.lM) λg=>(uN b a) (g.2.1,g.2.2.1,g.2.2.2,g.1,b.eC.eg,b.eC.hU)) M
abbrev Y4:E (Nat×Nat):=[(1,900003),(4,900006),(6,900008)]
def GL{o b}(r)(h:n_ o b=B r):ei 20 [dP eZ.cs o,dP pM.cs b] [] (.eu [(T,(eT Y4 (eZ.cs r.1))),(Z,[c5 r.2])]) [(ng,cW 120 78 r.1.fB),(j4,cW 139 3 r.1.hg),(mj,cW 79 47 r.1.fI)]:=dc<|db 12 h ao8 λak h=>c7 7 [13] [] h (λh=>cV 7<|ka 4 1 c8 120 78 J<|ka 4 4 eK 139 3 J<|ka 4 6 e8 79 47 J<|dj 0 (eE [4,5] [(c8,ng),(eK,j4),(e8,mj),(4,4)])<|cJ 2 h) λh=>dN 4 [] [(17,ng),(c8,gv),(eK,mD),(e8,j4),(g_,u1),(iW,mj)] M h ab3 λi h=>dj 7 (cX [4,7,18] [4,17,c8,eK,e8,g_,iW,7])<|f_ 0 2000<|mI 194 Tryz.func33 rfl rfl (cX [4,7] [2004,2007,2017]) (λg=>[(4,eO 2004),(7,eO 2007),(19,cS g.1)]) (λg=>[(2004,.box<|[c5 0]++fe 6 (ia)),(2007,.box<|eT [(4,602009),(6,602011)]<|gw [(1,.dk 2017)]<|i4.cs<|{g.2.1 with eC.fB:=[]}),(2017,d5 120 78 d3.cs g.2.2),(602007,cW 139 3 g.2.1.eC.hg),(602009,cW 79 47 g.2.1.eC.fI)]) (z7) r J (λg h=>c7 7 [21] [] h (λh=>cV 7<|ka 2004 1 c8 120 78 J<|ka 2004 4 eK 139 3 J<|ka 2004 6 e8 79 47 J<|dj 0 (eE [4,5] [(c8,ng),(eK,j4),(e8,mj),(2004,2004)])<|cJ 2 h) λh=>dD 8 2017<|dj 0 (eE [4,5] [(2017,ng),(602007,j4),(602009,mj),(2004,2004)])<|cJ 1 h) λab=>c7 12 [11] [] h (λh=>dK 1 8<|w2 0 ru 5 1 (c4 cH) h λP h=>dG 4 4<|Q5 lq 28 4 gR i.eC.eg J J<|dD 0 lq<|dD 0 nS<|dD 0 oT<|dD 0 ru<|dD 0 qG<|cV 2<|hH (0,{i with eC.fB:=[],eC.jr:=P},i.eC.fB) ⟨[(4,[]),(7,[]),(19,[])],[(2004,(2004,[])),(2007,(2007,[0,0,2,2,0,2])),(2017,(2017,[])),(oT,(602007,[])),(qG,(602009,[]))]⟩ h J J J) λh=>dK 2 7<|dC h λai A h=>ky 2017 78 0 d3.cs .c_ A J J<|dC h λa C h=>mn 120 (0+cM b.A) 0 d3.cs (v:=.agg<|[d6 a.gS.h1]++f0 cH a.gS.hJ 0 16++f0 cH a.gS.yv 0 16++[fm a.gS.o2,eS 16 (ek cH 16) a.gS.m1,eS 34 gl.cs a.gS.gu,eS 20 gj.cs a.gS.m0,eS 17 h9.cs a.dl.jj,hL a.dl.eJ,hL a.dl.h3,hL a.dl.it,eS 6 e_.cs a.dl.d8,da a.dx,gR a.jx,fm a.eA,hL a.ga,c5 a.rl,c5 a.tw,c5 a.o4,d6 a.dW.hr,fm a.dW.dx,c5 a.dW.j7,c5 a.dW.gH,fm a.dW.i3,c5 a.dW.jk,eS 34 gl.cs a.dW.gu,eS 8 fh.cs a.dW.eg,eS 38 eh.cs a.dW.gT,eS 39 dL.cs a.dW.gX,eS 40 dH.cs a.dW.hh,eS 40 eq.cs a.dW.hj,eS 37 dB.cs a.dW.gI.fJ,c5 a.dW.gI.oQ,eS 10 eG.cs a.g1,eS 5 es.cs a.ex,eS 3 hR.cs a.ni,c5 a.j9.vi,eS 1 (c4 cH) a.j9.gA]++f0 cH a.j9.eA 0 8++[eS 3 kl.cs a.pL,eS 34 iw.cs a.oJ]) C J J J<|dG 2 12<|fR 0 ⟨[(0,[]),(3,[]),(5,[]),(6,[2]),(7,[46]),(8,[]),(rt,[]),(tH,[])],[(2007,(2007,[])),(3,(3,[])),(5,(5,[])),(2004,(2004,[])),(2017,(2017,[])),(lq,(lq,[])),(nS,(nS,[])),(oT,(oT,[])),(ru,(ru,[])),(qG,(qG,[]))]⟩ (λd=>[(6,dJ 1 (jK 1<|c4 cH)<|d.1),(7,dJ 45 gP.cs<|d.2.1),(8,cS d.2.2.1)]) (λd=>[(5,.box<|d3.cs d.2.2.2.1),(lq,Gu 28 4 gR d.2.2.2.2.1),(nS,d5 4 1 i0 d.2.2.2.2.2)]) (uN i b) r (λd h=>dD 9 oT<|dD 0 qG<|Q5 lq 28 4 gR d.2.2.2.2.1 J J<|dD 0 lq<|dD 0 nS<|dD 0 ru<|og 2007 [0,0,2,2,0,2] J<|hm 0 [] [] [(2007,df),(2017,eF),(oT,fY),(qG,e0)] h Tj λm h=>cV 3<|hH (m.1,{m.2 with eC.fB:=[]},m.2.eC.fB) (eE [4,7,19] [(2004,2004),(2007,2007),(2017,2017),(oT,602007),(qG,602009)]) h J J J)<|c7 11 [36,35] [] h (λh=>dK 0 7<|dC h λad t h=>ah1 lq 28 4 (jv gR) t J J J<|dC h λaj l h=>ah4 28 lq 28 4 (0+cM b.A) (jv gR) l J J J J<|dC h λae p h=>fa 4<|ah0 lq 28 4 (0+cM b.A) gR l p J J J<|aia lq 28 4 (0+cM b.A) (cM b.eB) gR b.rx (gR b.rx) l (F9 p).2 rfl J J J<|dG 0 1<|h5 0 ⟨[(0,[]),(3,[]),(5,[]),(6,[2]),(7,[46]),(8,[]),(rt,[]),(tH,[])],[(2007,(2007,[])),(3,(3,[])),(5,(5,[])),(2004,(2004,[])),(2017,(2017,[])),(lq,(lq,[])),(nS,(nS,[])),(oT,(oT,[])),(ru,(ru,[])),(qG,(qG,[]))]⟩ h) λh=>c7 5 [52,51] [] h (λh=>dK 0 9<|dC h λQ D h=>pN [] ((qo [yK] anE) Q D) J J<|dG 5 1<|h5 0 ⟨[(0,[]),(3,[]),(5,[]),(6,[2]),(7,[46]),(8,[]),(rt,[]),(tH,[])],[(2007,(2007,[])),(3,(3,[])),(5,(5,[])),(2004,(2004,[])),(2017,(2017,[])),(lq,(lq,[])),(nS,(nS,[])),(oT,(oT,[])),(ru,(ru,[])),(qG,(qG,[]))]⟩ h) λh=>c7 5 [67,66] [] h (λh=>fR 0 (cX [0,3,5,6,7,8,rt,tH] [2007,3,5,2004,2017,lq,nS,oT,ru,qG]) (λj=>[(8,cS j.1)]) (λj=>[(5,.box<|d3.cs j.2)]) (z8 i b) r (λj h=>dK 0 9<|dC h λaf u h=>ky nS 1 0 i0 .c_ u J J<|dC h λag x h=>rC nS 4 1 (F i.eC.hU) (0+cM b.A) 0 i0 (b:=[gR b.rx]) b.rx x J J J J<|dG 0 1<|h5 0 ⟨[(0,[]),(3,[]),(5,[]),(6,[2]),(7,[46]),(8,[]),(rt,[]),(tH,[])],[(2007,(2007,[])),(3,(3,[])),(5,(5,[])),(2004,(2004,[])),(2017,(2017,[])),(lq,(lq,[])),(nS,(nS,[])),(oT,(oT,[])),(ru,(ru,[])),(qG,(qG,[]))]⟩ h)<|dK 1 7<|dC h λah y h=>ky nS 1 0 i0 .c_ y J J<|dC h λq z h=>mn 4 (0+cM b.A) 0 i0 (v:=(e4 q)) z J J J<|eN h (λk G=>by subst k;exact dG 5 0<|c7 0 [79] [80,81] G (λG=>dQ 1 G) λG=>dK 0 6<|dC G λS K G=>pN [] ((qo [yK] anI) S K) J J<|dG 5 0<|dQ 0 G) λk s=>by subst k;exact dG 5 0<|dt 0<|dQ 1 s) λh=>hb 5 [103,102] [] h λh=>dK 0 8<|dC h λaa N h=>pN [] ((qo [yK,[2],[46]] anF) aa N) J J<|dG 9 1<|dQ 0 h
def WQ(b:E (E Int))(d:Int×eZ)(i:Bool)(a:Int×eZ):X ((Int×eZ)⊕eZ):=cond (decide (a.1<2)) (O (di b d.1) λk=>cond (decide ((0:Int)<=a.1/\a.1<(2:Int))) (O (di b d.1) λj=>cond (decide ((0:Int)<=(U W (1-a.1))/\(U W (1-a.1))<(2:Int))) (O (n_ a.2 (pM.mk 1 (me k (cM a.1) 0) (me j (cM (U W (1-a.1))) 0) i 0 (ee.mk 0 0 0 0 eP eP 0 0 ([]:E Int)) [] (kS.mk 0 [] [0,0,0,0,0,0,0,0]) (iw.mk eP eP 0 0))) λg=>cond (g.2 !=0) M<|B (dV (U W (a.1+1),g.1))) M) M)<|B (du a.2)
def WP(b:E (E Int))(d:Bool)(a:Int×eZ):X ((Int×eZ)⊕eZ):=cond (decide (a.1<(F b:Int))) (O (dq (WQ b a d) (0,a.2)) λg=>B (dV (U W (a.1+1),g)))<|B (du a.2)
def AE(a:eZ)(b:E (E Int))(d:Bool):X (eZ×Bool):=O (dq (WP b d) (0,a)) λg=>B ((g,T))
abbrev Fp:=l0 43 [2,2,0,2]
def adp{j k l}(r)(h:AE j k l=B r):dX 9 [dP eZ.cs j,dJ 2 (ek W 2) k,e4 l] (.eu [(T,eZ.cs r.1),(Z,[gR r.2])]):=dc<|eQ 12 h (cX [1,2,3,6,8] [3,6]) (λd=>[(8,cS d.1)]) (λd=>[(3,.box<|eZ.cs d.2)]) 0 (cX [3,6] [3,6]) (λg=>[]) (λg=>[(3,.box<|eZ.cs g)]) (λd a h=>c7 8 [15] [] h (λh=>eQ 8 h (cX [1,2,3,6,8,9] [3,6]) (λb=>[(9,cS b.1)]) (λb=>[(3,.box<|eZ.cs b.2)]) 2 (cX [1,2,3,6,8] [3,6]) (λi=>[]) (λi=>[(3,.box<|eZ.cs i)]) (λb a h=>c7 6 [19] [] h (λh=>dK 4 4<|hE 0 (ek W 2) h λo h=>eX h λp h=>XU (g:=W) 2 o (j:=b.1) p J J<|hE 5 (ek W 2) h λm h=>eX h λq h=>XU (g:=W) 2 m (j:=U W<|1-b.1) q J J<|dC h λt s h=>fa 3<|pN [[],Fp] ((qo [[0,79,2,2,4,2,48]] GL) t s) J J<|dG 6 6<|eI 0 [43] [] h λh=>ey 11 h) λh=>eo 2 h) λi h=>ey 7 h) λh=>eo 2 h) λg h=>cJ 8 h
def Pj(a:Int):X Int:=cond (decide (a<1)) M<|cond (decide (a>12)) M<|B (U W (89+(U W (a*14))))
def ao4{a}(r)(h:Pj a=B r):dX 29 [cS a] ((cS r)):=dc<|gF 10 [4,5] [] h λh=>eI 4 [7,8] [] h λh=>cJ 9 h
def OQ(a:E Int):X Bool:=cond (decide ((U W ((F a:Int)-2))<0)) M<|O (g2 a 0 (U W ((F a:Int)-2))) λg=>O (zR g) λb=>O (di a (U W ((F a:Int)-2))) λaH=>cond (aH==(U cH b)) (O (di a (U W ((U W ((F a:Int)-2))+1))) λd=>B ((d==(U cH (gh fW b 8))))) M
def aoz{a}(r)(h:OQ a=B r):dX 163 [dJ 1 (c4 cH) a] ((e4 r)):=dc<|eI 17 [9] [] h λh=>kh 5 (c4 cH) 1 h λg h=>db 0 h ack λi h=>e5 6 (c4 cH) h λb h=>hW 5 [20,21] [] h λh=>e5 3 (c4 cH) h λd h=>cJ 9 h
def CO(b t:Int×Bool)(s l:Int×Bool)(i:Int×Int×E Int)(d:Int×Int×E Int):X (hd×Bool):=cond ((f2 cH (U cH b.1) 8) !=0) (O (js d.2.2 0 4) λj=>cond j.2 (O (g2 d.2.2 4 (F d.2.2:Int)) λg=>O (js g 0 1) λk=>cond k.2 (O (g2 g 1 (F g:Int)) λa=>cond (decide ((U W ((F a:Int)-4))<0)) M<|O (g2 a 0 (U W ((F a:Int)-4))) λm=>O (ej 1 [] (cQ.cL .c_ m)) λo=>O (g2 a (U W ((F a:Int)-4)) (F a:Int)) λp=>O (ej 1 [] (cQ.cL .c_ p)) λq=>B (((hd.mk (U W (gh cH (U cH b.1) 6)) ((f2 cH (U cH b.1) 32) !=0) ((f2 cH (U cH b.1) 16) !=0) ((f2 cH (U cH b.1) 8) !=0) (U cH t.1) (U fW s.1) (fj.mk (U W (f2 cH (gh cH (U cH l.1) 6) 3)) i.1 i.2.1) (fj.mk (U W (f2 cH (gh cH (U cH l.1) 4) 3)) d.1 d.2.1) (U e9 j.1) (U cH k.1) o q),T))) M) M) M
def CN(b d:Int×Bool)(k g:Int×Bool)(a:Int×Int×E Int):X (hd×Bool):=cond ((U W (f2 cH (gh cH (U cH b.1) 4) 3))==2) (O (js a.2.2 0 2) λi=>cond i.2 (O (g2 a.2.2 2 (F a.2.2:Int)) λl=>(CO d k g b a) (U fW i.1,0,l)) M)<|cond ((U W (f2 cH (gh cH (U cH b.1) 4) 3))==3) (O (js a.2.2 0 8) λj=>cond j.2 (O (g2 a.2.2 8 (F a.2.2:Int)) λm=>(CO d k g b a) (0,j.1,m)) M) M
def Ij(g:E Int):X (hd×Bool):=O (js g 0 1) λd=>cond d.2 (O (g2 g 1 (F g:Int)) λi=>O (js i 0 1) λb=>cond b.2 (O (g2 i 1 (F i:Int)) λj=>O (js j 0 1) λm=>cond m.2 (O (g2 j 1 (F j:Int)) λk=>cond ((U W (gh cH (U cH d.1) 6)) !=2) (O (js k 0 2) λl=>cond l.2 (O (g2 k 2 (F k:Int)) λa=>cond ((U W (f2 cH (gh cH (U cH b.1) 6) 3))==2) (O (js a 0 2) λo=>cond o.2 (O (g2 a 2 (F a:Int)) λq=>(CN b d m l) (U fW o.1,0,q)) M)<|cond ((U W (f2 cH (gh cH (U cH b.1) 6) 3))==3) (O (js a 0 8) λp=>cond p.2 (O (g2 a 8 (F a:Int)) λs=>(CN b d m l) (0,p.1,s)) M) M) M) M) M) M) M
abbrev aiP:E (Nat×Nat):=[(2004,4),(2005,5),(14002,12002),(14004,12004),(8007,6007),(6008,4008)]
abbrev YD:=eE [4,5,2000002,2000004,2000006,2000007,2000008,2000038,2000041] aiP
abbrev aiQ:E (Nat×Nat):=[(2004,4),(2005,5),(12002,10002),(12004,10004),(6007,4007),(4008,2008)]
abbrev YE:=eE [4,5,2000002,2000004,2000006,2000007,2000008,2000038,2000041] aiQ
def anf{g}(r)(h:Ij g=B r):ei 164 [dJ 1 (c4 cH) g] [] (.eu [(T,(eT [(14,900016),(15,900017)] (hd.cs r.1))),(Z,[gR r.2])]) [(AN,cW 5 1 r.1.f7),(900015,cW 5 1 r.1.pH)]:=dc<|dj 14 (cX [2,4] [2,4])<|f_ 0 2000<|gZ 31 254<|db 11 h lx λi h=>hb 12 [15,6,16] [17] h λh=>kh 9 (c4 cH) 1 h λz h=>cV 10<|gN J J<|dj 1 (cX [2,4,14] [2002,2004])<|f_ 0 2000<|gZ 31 254<|db 11 h lx λd h=>hb 12 [15,6,16] [17] h λh=>kh 9 (c4 cH) 1 h λN h=>cV 10<|gN J J<|dj 18 (cX [2,4,6,19,22,25,28] [4002,4004])<|f_ 0 2000<|gZ 31 254<|db 11 h lx λk h=>hb 12 [15,6,16] [17] h λh=>kh 9 (c4 cH) 1 h λP h=>cV 10<|gN J J<|hb 12 [34] [] h λh=>dj 2 (cX [2,4,6,7] [6002,6004,7])<|f_ 0 2000<|gZ 31 254<|db 11 h lx λj h=>hb 12 [15,6,16] [17] h λh=>kh 9 (c4 cH) 1 h λx h=>cV 10<|gN J J<|dj 14 (cX [2,4,6,7,8,38] [8002,8004,2007,8])<|aiB 16 J<|dt 5<|dj 17 (cX [2,4,6,7,8,38,41,48] [8002,8004,2007,8])<|f_ 0 2000<|gZ 21 255<|fR 11 (cX [4,5,nR,rt,pI,tH,EO,oS,EP] [4,5,10002,10004,4007,2008]) (λa=>[]) (λa=>[(5,.box<|fj.cs<|fj.mk (U W<|f2 cH (gh cH (U cH d.1) 6) 3) a.1 a.2.1),(10004,.box [eS 1 (c4 cH) a.2.2,gR Z])]) (CN d i k j) r (λa h=>cV 6<|gN J J<|cV 8<|Ye J J<|dt 5<|dj 17 (cX [2,4,6,7,8,38,41,48] [10002,10004,4007,2008])<|f_ 0 2000<|gZ 21 255<|fR 11 (cX [4,5,nR,rt,pI,tH,EO,oS,EP] [4,5,12002,12004,6007,4008]) (λb=>[]) (λb=>[(5,.box<|fj.cs<|fj.mk (U W<|f2 cH (gh cH (U cH d.1) 4) 3) b.1 b.2.1),(12004,.box [eS 1 (c4 cH) b.2.2,gR Z])]) (CO i k j d a) r (λb h=>cV 6<|gN J J<|cV 8<|Ye J J<|dt 5<|cV 2<|aiC J<|dK 1 8<|dG 0 6<|aaZ 0 [59] [] h λl h=>dj 2 (cX [2,4,7] [12002,12004,6007])<|f_ 0 2000<|gZ 31 254<|db 11 h lx λQ h=>hb 12 [15,6,16] [17] h λh=>kh 9 (c4 cH) 1 h λy h=>cV 10<|gN J J<|dj 5 (cX [2,4,7] [14002,14004,8007])<|f_ 0 2000<|gZ 31 254<|db 11 h lx λS h=>hb 12 [15,6,16] [17] h λh=>kh 9 (c4 cH) 1 h λs h=>cV 10<|gN J J<|dt 10<|dF 13 73 l<|dt 1<|eI 11 [77] [] h λh=>kh 6 (c4 cH) 1 h λp h=>dC h λt m h=>Fg 83 5 1 (c4 cH) gs (g:=p) .c_ m J J<|kh 8 (c4 cH) 1 h λq h=>dC h λu o h=>Fg 89 5 1 (c4 cH) gs (g:=q) .c_ o J J<|dj 9 (eE [2,3] [(83,AN),(89,900015),(16002,16002)])<|cJ 1 h)<|c7 10 [10,9] [] h (λh=>dj 2 (cX [nR,rt,pI,tH,EO,oS,EP,4,5,11] [12002,12004,6007,4008,4,5])<|f_ 0 2000<|gZ 31 254<|db 11 h lx λaa h=>hb 12 [15,6,16] [17] h λh=>kh 9 (c4 cH) 1 h λA h=>cV 10<|gN J J<|h5 5 YD h) λh=>hb 5 [16,15] [] h λh=>dj 2 (cX [nR,rt,pI,tH,EO,oS,EP,4,5,17] [12002,12004,6007,4008,4,5])<|f_ 0 2000<|gZ 31 254<|db 11 h lx λab h=>hb 12 [15,6,16] [17] h λh=>kh 9 (c4 cH) 1 h λC h=>cV 10<|gN J J<|h5 4 YD h)<|c7 10 [10,9] [] h (λh=>dj 2 (cX [nR,rt,pI,tH,EO,oS,EP,4,5,11] [10002,10004,4007,2008,4,5])<|f_ 0 2000<|gZ 31 254<|db 11 h lx λad h=>hb 12 [15,6,16] [17] h λh=>kh 9 (c4 cH) 1 h λD h=>cV 10<|gN J J<|h5 5 YE h) λh=>hb 5 [16,15] [] h λh=>dj 2 (cX [nR,rt,pI,tH,EO,oS,EP,4,5,17] [10002,10004,4007,2008,4,5])<|f_ 0 2000<|gZ 31 254<|db 11 h lx λae h=>hb 12 [15,6,16] [17] h λh=>kh 9 (c4 cH) 1 h λK h=>cV 10<|gN J J<|h5 4 YE h
def sm(a b:E Int):X Bool:=B (((mu (cQ.cL .c_ a))==(mu (cQ.cL .c_ b))))
def BO{a b}(r)(h:sm a b=B r):dX 166 [dJ 1 (c4 cH) a,dJ 1 (c4 cH) b] ((e4 r)):=dc<|cV 7<|X3 a .c_ J J<|cV 1<|X3 b .c_ J J<|aiz .eql (mu<|cQ.cL .c_ a) (mu<|cQ.cL .c_ b) rfl J J<|cJ 3 h
def Ih(a:E Int):X (hd×Int):=cond (decide ((F a:Int)>127)) M<|cond (decide ((F a:Int)<5)) M<|O (OQ a) λj=>cond j (O (g2 a 0 (U W ((F a:Int)-2))) λg=>O (Ij g) λb=>cond b.2 (O (zW b.1) λd=>cond (d.2 !=0) M<|O (sm d.1 a) λi=>cond i (B ((b.1,0))) M) M) M
def ane{a}(r)(h:Ih a=B r):ei 81 [dJ 1 (c4 cH) a] [] (.eu [(T,(eT [(14,900016),(15,900017)] (hd.cs r.1))),(Z,[c5 r.2])]) [(AN,cW 5 1 r.1.f7),(900015,cW 5 1 r.1.pH)]:=dc<|eI 14 [11,8] [] h λh=>eI 7 [16,13] [] h λh=>hu 3 [] 3 h aoz λh=>kh 8 (c4 cH) 1 h λb h=>dN 0 [] [(29,AN),(c8,900015)] M h anf λd h=>hb 13 [31,5,32] [33] h λh=>dN 4 [qi] [(37,c9)] M h abW λg h=>gF 12 [41,42] [] h λh=>hu 2 [[2]] 3 h BO λh=>dj 7 (eE [2,3] [(29,AN),(c8,900015),(2,2)])<|cJ 1 h
def KA(d g a:E Int):X Bool:=O (Ay d g (F a:Int)) λb=>cond b.2 (O (sm b.1 a) λi=>B (i)) M
def apK{a b d}(r)(h:KA a b d=B r):dX 169 [.agg (ek cH 16 a),dJ 1 (c4 cH) b,dJ 1 (c4 cH) d] ((e4 r)):=dc<|dN 11 [] [(14,c9)] M h acc λg h=>hW 10 [16,8,17,18] [] h λh=>nF 2 [[2]] h BO λi h=>cJ 4 h
def CQ(a:e_)(b:Int):X (e_×Int):=cond (decide (b>a.gV)) (cond (decide (0<=(U e9 (b-a.gV)))) (B (((e_.mk a.dU a.hJ b (jD e9 (ji e9 a.kT (U e9 (b-a.gV))) 1)),0))) M)<|cond (decide ((U e9 (a.gV-b))>=32)) (B (((e_.mk (fj.mk 0 0 0) 0 0 0),13)))<|cond (decide (0<=(U e9 (a.gV-b)))) (cond ((f2 e9 (gh e9 a.kT (U e9 (a.gV-b))) 1)==1) (B (((e_.mk (fj.mk 0 0 0) 0 0 0),13)))<|cond (decide (0<=(U e9 (a.gV-b)))) (B (({a with kT:=jD e9 a.kT (ji e9 1 (U e9 (a.gV-b)))},0))) M) M
def aoL{a b}(r)(h:CQ a b=B r):dX 171 [dP e_.cs a,qn b] (.eu [(T,e_.cs r.1),(Z,[c5 r.2])]):=dc<|c7 14 [10] [] h (λh=>eX h λd h=>cV 8<|o7 (op:=.shl) (g:=e9) (b:=e9) (A:=a.kT) (j:=U e9<|b-a.gV) (f8 d) rfl dh J J<|cJ 18 h) λh=>gp 15 [28,29] [] h (λh=>dt 8<|cJ 8 h) λh=>eX h λg h=>cV 3<|o7 (op:=.shr) (g:=e9) (b:=e9) (A:=a.kT) (j:=U e9<|a.gV-b) (f8 g) rfl dh J J<|c7 4 [35,36] [] h (λh=>cJ 8 h) λh=>eX h λi h=>cV 6<|o7 (op:=.shl) (g:=e9) (b:=e9) (A:=1) (j:=U e9<|a.gV-b) (f8 i) rfl dh J J<|cJ 11 h
def O6(a:E h9):X (E h9):=O (ej 17 [] (cQ.cL .c_ a)) λb=>B (b)
def ank{a}(r)(h:O6 a=B r):ei 223 [dJ 17 h9.cs a] [] (.c (.dk c9)) [(c9,d5 171 17 h9.cs r)]:=dc<|dC h λd b h=>cV 7<|X2 4 171 17 h9.cs gs (g:=a) .c_ b J J<|dj 2 Fq<|cJ 1 h
def O8(a:E e_):X (E e_):=O (ej 40 [] (cQ.cL .c_ a)) λb=>B (b)
def anm{a}(r)(h:O8 a=B r):ei 224 [dJ 6 e_.cs a] [] (.c (.dk c9)) [(c9,d5 246 6 e_.cs r)]:=dc<|dC h λd b h=>cV 7<|X2 4 246 6 e_.cs gs (g:=a) .c_ b J J<|dj 2 Fq<|cJ 1 h
def Ip(a:eR):X eR:=O (O6 a.jj) λb=>O (O8 a.d8) λd=>B ({a with jj:=b,d8:=d})
def anp{a}(r)(h:Ip a=B r):ei 114 [dP eR.cs a] [] (.agg [.dk c9,hL r.eJ,hL r.h3,hL r.it,.dk j4]) [(c9,d5 171 17 h9.cs r.jj),(j4,d5 246 6 e_.cs r.d8)]:=dc<|dN 9 [] [(5,c9)] M h ank λb h=>dN 7 [] [(9,c9)] M h anm λd h=>dj 8 (eE [2] YV)<|cJ 1 h
def xT(a b:Int):X (E Int):=O (hy ([a]:E Int) (U cZ b) 4) λd=>B (d)
def S5{a b}(r)(h:xT a b=B r):ei 172 [qR a,qn b] [] (.c (d7 1 gv (c4 cH) r)) [(c9,cW 5 1 r)]:=dc<|i1 7 6 5 1 (c4 cH) [] ([a]:E Int)<|dN 2 [[2]] [(9,c9)] M h ib λd h=>dj 2 (eE [4] [(9,c9)])<|cJ 1 h
def xS(a:E Int):X (E Int×Bool):=cond ((F a:Int) !=5) M<|O (di a 0) λaD=>cond (aD !=1) (B ((([]:E Int),Z)))<|O (g2 a 1 (F a:Int)) λb=>O (ej 1 ([2]:E Int) (cQ.cL .c_ b)) λd=>B ((d,T))
abbrev Rt:=eE [2,3] [(600000,900000)]
def anh{a}(r)(h:xS a=B r):ei 184 [dJ 1 (c4 cH) a] [] (.eu [(Z,[d7 1 gv (c4 cH) r.1]),(Z,[gR r.2])]) [(c9,cW 5 1 r.1)]:=dc<|gF 12 [6,7] [] h λh=>e5 1 (c4 cH) h λb h=>c7 4 [11,12] [] h (λh=>f9 5 2 c8 5 1<|dj 0 Rt<|cJ 2 h) λh=>i1 3 13 5 1 (c4 cH) [] ([2]:E Int)<|kh 1 (c4 cH) 1 h λg h=>nm 0 13 5 1 (c4 cH) h λd h=>dj 3 (eE [2,3] [(13,c9)])<|cJ 1 h
def Dq(a:Bool×eR×Int×E (E Int)):X (Bool×eR×Int×E (E Int)):=B ((a.1,a.2.1,a.2.2.1,a.2.2.2))
def uR(a:fs)(d:hd):X (Bool×eR×Int×E (E Int)):=O (xS d.f7) λg=>cond g.2 (O (wr a 3 d.dU g.1) λb=>(Dq) (T,b.2.2.2.1,b.2.2.2.2.1,b.2.2.2.2.2))<|(Dq) (Z,a.n.dl,a.n.dx,a.eL)
def Tm{b d}(r)(h:uR b d=B r):ei 87 [eO df,dP hd.cs d] (iU b) ((e4 r.1)) (iU ({b with n.dl:=r.2.1,n.dx:=r.2.2.1,eL:=r.2.2.2})):=dc<|dN 9 [] [(10,c9)] M h anh λg h=>fR 6 (cX [6] [df,e0,fY,eF]) (λa=>[(6,e4 a.1)]) (λa=>[(df,.box<|eT oi<|gw [(64,.dk e0)]<|fs.cs<|{b with n.dl:=a.2.1,n.dx:=a.2.2.1,n.ex:=[],eL:=a.2.2.2}),(eF,cW 30 1 a.2.2.2)]) (Dq) r (λa h=>cJ 6 h)<|c7 4 [12,6,13] [] h (λh=>hm 5 [[],[],[],[2]] [(18,c9)] kA h GM λi h=>dQ 1 h) λh=>dQ 1 h
end
end
end Go.Proofs.YtddmdeaegbfhaaaGreat
