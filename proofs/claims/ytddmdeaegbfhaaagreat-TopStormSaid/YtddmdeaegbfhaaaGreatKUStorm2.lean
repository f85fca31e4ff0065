/- Part 2 of what the proof of this law rests on. -/
import Derived.Test.YtddmdeaegbfhaaaGreatKUStorm1
namespace Go.Proofs.YtddmdeaegbfhaaaGreat
set_option linter.all false
set_option maxRecDepth 100000
set_option maxHeartbeats 4000000
open Go.ChangeAt Go.ChangeShapes Go.Lib Go.RowKit Go.WideShapes
open _root_.Array renaming ext_getElem?->v6,foldl->zN,getElem?_append_left->r_,getElem?_eq_getElem->pu,getElem?_eq_none->uy,getElem?_eq_some_iff->l4,getElem?_map->Oe,getElem?_setIfInBounds_self_of_lt->Vo,getElem?_toList->v5,getElem_range->U7,length_toList->pz,replicate->Cg,size_append->zE,toArray_toList->lF,toList_append->ul
open _root_.BitVec renaming ofInt->n8,toNat_ofInt->Vd
open _root_.Bool renaming and_eq_true->fz,false_eq_true->j0,false_or->r7,not_eq_true'->xA,or_eq_true->lc,or_true->U9,false->Z,true->T
open _root_.ByteArray.toList renaming loop->Og
open _root_.Classical renaming byContradiction->Hx
open _root_.Eq renaming trans->Cn
open Go renaming Addr->mX,BinOp->nL,Calls->Hy,Code->k7,Exit->fE,Func->n5,FuncId->gk,IntKind->g0,MapEntry->zK,Oper->dy,Operand->hp,Program->dw,ResultVar->qy,TypeId->f1,TypeInfo->n9,Value->dp,World->d2
open Go.Builtin renaming append_->qz,clear_->HF,copy_->p6,firstCells->Hz,lenOf->v3,zeroCells->nJ
open Go.DataW renaming TrodAll->U_
open Go.Extern renaming findNext->U8
open Go.Extern.BytealgCompare renaming cmp->afL,compare->Cm
open Go.Extern.Bytes renaming bytesOf->zF,loadBytes->HD
open Go.Extern.SlicesOverlaps renaming overlaps->afO
open Go.Instr renaming checkKey->zH,fill->uz,findAsking->Vh,findKey->Vi,findNow->Ol,lookup->Vl,makeMap->Vk,mapUpdate->Vn,sameNow->Ok,slice->Of,sliceAt->Cl,sliceBound->um,sliceBounds->un,sureAddr->qB
open Go.IntKind renaming bits->oF,i64->W,signed->rj,u16->fW,u32->e9,u64->cZ,u8->cH,wrap->U
open Go.Lib renaming wpList_append_run->On
open Go.MapKept renaming run_getObj_map->Vm
open Go.Op renaming bytesLess->HE,equalIn->HX
open Go.Oper renaming upon->ly,wp->ln
open Go.Proofs.Tryz renaming prog->h6
open Go.Region renaming wanted->xF
open Go.Result renaming andThen_ok->gn
open Go.Sem renaming run->mZ,run_bind->g3,run_pure->hM
open Go.Value renaming ownBlock->n6,slice->xG
open Go.World renaming block_lt_of_cell?->rk,cell?_alloc_at->UJ,cell?_setCells_out->HI,frozen?->sg,frozen?_setCells->Vq,setCells->Vp,shape?->Vr
open _root_.Int renaming eq_ofNat_of_zero_le->Vc,pow_nonneg->Vb,toNat_natCast->gz
open _root_.List renaming all_cons->v1,all_eq_true->fp,append_assoc->iu,append_nil->nb,cons_append->r8,contains_eq_mem->Om,drop_drop->ri,drop_eq_getElem_cons->VR,drop_left->zG,drop_of_length_le->Co,drop_zero->v4,eq_nil_of_length_eq_zero->mw,ext_getElem?->tp,forIn_cons->Vg,getD->me,getD_eq_getElem?_getD->ur,getElem?_append->p7,getElem?_append_left->tj,getElem?_append_right->rc,getElem?_cons_zero->rf,getElem?_drop->j2,getElem?_eq_getElem->e6,getElem?_eq_none->pv,getElem?_eq_some_iff->ie,getElem?_map->gy,getElem?_of_mem->xC,getElem?_range->tt,getElem?_replicate->U6,getElem?_set->sa,getElem?_take->jd,getElem_mem->fi,length->F,length_append->g9,length_cons->l6,length_drop->my,length_eq_one_iff->xB,length_map->fT,length_pos_iff->Ck,length_replicate->ut,length_set->sb,length_singleton->lG,length_take->hO,map->jv,map_append->hN,map_congr_left->pw,map_cons->hx,map_drop->up,map_eq_nil_iff->tq,map_inj_left->HH,map_nil->jY,map_take->nx,map_toArray->p5,mem_append->gq,mem_append_left->r9,mem_cons->l3,mem_filter->oE,mem_map->hT,mem_of_getElem?->lp,mem_of_mem_drop->uv,mem_of_mem_take->tr,mem_replicate->U5,mem_singleton->gO,nil_append->k8,range->jG,replicate->fe,size_toArray->qA,take_append_drop->tn,take_append_of_le_length->sc,take_left->rg,take_of_length_le->k9,take_take->ts
open _root_.List.cons renaming injEq->tm
open _root_.Nat renaming add_assoc->lH,add_mul->jZ,add_zero->jO,le_refl->jq,le_trans->mY,lt_of_lt_of_le->Ct,lt_or_ge->la,min->HC,min_eq_left->jw,mod_lt->zC,mul_comm->re,mul_le_mul_right->j1,mul_one->uq,one_mul->rh,strongRecOn->Cf,sub_self->v2,sub_zero->ti,zero_add->gx,zero_le->ny,zero_mul->zD
open _root_.Ne renaming symm->l5
open _root_.Option renaming bind_eq_some_iff->jc,getD_some->n7,isNone_iff_eq_none->zz,isSome_iff_exists->lb,isSome_none->tu,map_eq_some_iff->gG,map_none->oD,map_some->iq,none->M,some->B
open _root_.Option.some renaming inj->mg,injEq->h0
open _root_.Prod.mk renaming injEq->mh
open _root_.Std.Legacy.Range renaming forIn_eq_forIn_range'->afM,size->afN
theorem T5{u:dw}{w:d2}{ak:Act}{x:dY}{rd:ez}{q:cP}{y:dy}(K:lJ x rd ak w q y){d hi:X hp}(aa:∀o,d=B o->o∈y.op.operands.toList)(S:∀o,hi=B o->o∈y.op.operands.toList)(D:Bool){i aV:Nat}{t l:Int}{C A:X (g0×Int)}
  (s:d.map (dZ q)=C.map λz=>B<|int z.1 z.2)(p:hi.map (dZ q)=A.map λz=>B<|int z.1 z.2)(j:t=(C.map (·.2)).getD 0)(m:l=(A.map (·.2)).getD (i:Int))(dI:0<=t)(G:t<=l)(P:l<=i)(Q:i<=aV):
  (un D i aV (d.map ak.eval) (hi.map ak.eval) (M:X dp)).run u w=.ok (t.toNat,l.toNat,aV) w:=by
 have g:∀yU,(match hi.map ak.eval with|some v=>um v aV yU|none=>pure i:Sem Nat).run u w=.ok l.toNat w:=by
  intro yU;cases hi with
  |none=>
   cases A with
   |none=>simp at m;subst m;simp
   |some z=>simp at p
  |some o=>
   cases A with
   |none=>simp at p
   |some z=>simp only[iq,h0,n7]at p m;have:=hw<|K.op o _ cU p;simp only[iq,this];rw[<-m];exact vW _ _ _ _ I I
 have k:∀yU,(match d.map ak.eval with|some v=>um v l.toNat yU|none=>pure 0:Sem Nat).run u w=.ok t.toNat w:=by
  intro yU;cases d with
  |none=>
   cases C with
   |none=>simp at j;subst j;simp
   |some z=>simp at s
  |some o=>
   cases C with
   |none=>simp at s
   |some z=>simp only[iq,h0,n7]at s j;have:=hw<|K.op o _ cU s;simp only[iq,this];rw[<-j];exact vW _ _ _ _ I I
 unfold un;cases hi with
 |none=>
  have a:=g .sliceAcap;cases d with
  |none=>have b:=k .sliceB;simp at b a⊢;exact dd
  |some o=>
   have b:=k .sliceB;simp only[oD,iq,g3,hM,gn,tu,j0,if_false]at b a⊢;injection a with N
   rw[N]at*;rw[b];simp
 |some an=>
  cases d with
  |none=>
   cases D<;>
   .simp only[oD,iq,g3,hM,gn,j0,if_false,if_true];have b:=k .sliceB;first
     |(have a:=g .sliceAcap;simp only[iq]at a;rw[a])
     |(have a:=g .sliceAlen;simp only[iq]at a;rw[a])
    simp at b⊢;exact b
  |some o=>
   cases D<;>
   .simp only[iq,g3,hM,gn,tu,j0,if_false,if_true];have b:=k .sliceB;first
     |(have a:=g .sliceAcap;simp only[iq]at a;rw[a])
     |(have a:=g .sliceAlen;simp only[iq]at a;rw[a])
    simp only[iq]at b;simp only[gn,b]
variable{u:dw}{y:dy}{q:cP}{ag:Type}
def xk(u:dw)(q:cP)(y:dy):X (Nat×Nat×Nat×Int×Int):=match y.op with
 |.slice j a g hi M=>match dZ q a,u.underlying j with
  |some (.c (.dk i)),B (.slice b)=>match cO q.Y i,u.info? b with
   |some (.row _ sz Q _),B d=>match qP q 0 g,qP q Q hi with
    |some (_,t),B (_,l)=>if d.size=sz then B (i,sz,Q,t,l)else M
    |_,_=>M
   |_,_=>M
  |_,_=>M
 |_=>M
def aeD{i sz Q:Nat}{t l:Int}(h:xk u q y=B (i,sz,Q,t,l))(z:decide (0<=t/\t<=l/\l<=(Q:Int))=T){x:dY}{rd:ez}{ak:Act}{w:d2}(g:lJ x rd ak w q y):
  ∃a c,(x.dM i).1=.slice a Q c/\Q<=c/\c<=maxLen/\(Q=0\/∃lf,a=B ⟨lf,0,M⟩)/\(execOp ak.eval y).run u w=.ok (.value (.slice (if c=t.toNat then a else a.map (·.add<|t.toNat*sz)) (l.toNat-t.toNat)<|c-t.toNat)) w:=by
 unfold xk at h;split at h;rotate_left;cases h;rename_i an S C hi cK;split at h;rotate_left;cases h;rename_i ah aG d aA;split at h;rotate_left;cases h;rename_i aD am aa aq al cN D;split at h;rotate_left;cases h;rename_i ap ae ao ag K A;split at h;rotate_left;cases h;rename_i aU;cases h;have⟨db,m,p⟩:=f8 z;have⟨P,s,ai,aj⟩:=g.gg i _ cN;have⟨a,c,j,k,N,_,b⟩:=kK s;have⟨ab,_⟩:=g.op S _ hD d;refine⟨a,c,j,k,N,?_,?_⟩
 .rcases b with b|⟨lf,b,_⟩
  .exact .inl b
  .exact .inr ⟨lf,b⟩
 .have⟨aC,au⟩:=sN K;have⟨aL,aT⟩:=sN A;have af:=T5 (u:=u) (ak:=ak) g (d:=C) (hi:=hi) (λo ad=>Lm) (λo ad=>QP) T (i:=Q) (aV:=c) aC aL au aT db m p k;simp only[execOp,cK,oD,Cl,Of,run_underlying aA,ab,j,af,sizeOf,typeInfo,program,D,g3,hM,mZ,gn,aU]
def aaK{i sz Q:Nat}{t l:Int}(h:xk u q y=B (i,sz,Q,t,l))(d:decide (0<=t/\t<=l/\l<=(Q:Int))=T)(g:t=0):jP u y q (.c (.row i l.toNat)):=by
 refine iH.jC λx rd ak w j=>?_
 have⟨a,c,k,z,A,b,m⟩:=aeD h d j;have⟨db,p,s⟩:=f8 d;subst g;refine⟨_,m,a,Q,c,k,?_,I⟩;simp only[Int.toNat_zero,ti,zD];split
 .rfl
 .cases a with
  |none=>rfl
  |some o=>
   simp only[iq];rcases b with b|⟨lf,b⟩
   .congr 2
   .cases b;rfl
def aaL{i sz Q:Nat}{t l:Int}(h:xk u q y=B (i,sz,Q,t,l))(d:decide (0<=t/\t<=l/\l<=(Q:Int))=T):jP u y q (.c (.sub i sz t.toNat (l.toNat-t.toNat))):=by
 refine iH.jC λx rd ak w g=>?_
 have⟨a,c,j,p,s,b,k⟩:=aeD h d g;have⟨db,m,o⟩:=f8 d;refine⟨_,k,a,Q,c,_,_,j,I,rfl,I,I,?_⟩;by_cases N:l.toNat-t.toNat=0
 .exact .inl N
 .right;rcases b with b|⟨lf,b⟩
  .omega
  .refine⟨lf,b,?_⟩;rw[dA I,b];simp only[iq,iS,gx]
def k5(s:E ag)(t A:Nat)(a:E ag):E ag:=s.take t++a.take (min (F a) A)++s.drop (t+min (F a) A)
def Mb(u:dw)(q:cP)(y:dy):X (Nat×Nat×Nat×Nat×E (E V)×cQ×Nat×E (E V)×cQ):=match y.op with
 |.call {callee:=.builtin .copy,args:=ae,argTypes:=k}=>match ae.toList,k.toList with
  |[a,o],[j,_]=>match u.underlying j with
   |some (.slice g)=>match u.info? g with
    |some b=>match(dZ q a).bind<|xh q,(dZ q o).bind (mU q b.size)with
     |some (i,e,sz,Q,ae,c,t),B (l,d)=>if b.size=sz/\0<sz then B (i,e,sz,Q,ae,c,t,l,d)else M
     |_,_=>M
    |none=>M
   |_=>M
  |_,_=>M
 |_=>M
def aeu{u:dw}{w:d2}(Bo d7 q e:f1)(g:n9)(aA:u.underlying Bo=B (.slice e))(hi:u.info? e=B g)(a o:X mX)(b s d av:Nat)(h:HC d b=0):
  (p6 #[Bo,d7] q #[.slice a b s,.slice o d av]).run u w=.ok (goInt 0) w:=by
 cases a<;>cases o<;>simp[p6,run_underlying aA,v3,Hz,sizeOf,typeInfo,hi,storeCells,h,loadCells,loadCellsFrom]
def afd{i e sz Q t:Nat}{f:ag->E V}(aO:∀a,(f a).all V.one=T){s p:E ag}{c k:cQ}(h:Mb u q y=B (i,e,sz,Q,s.map f,c,t,p.map f,k)):
  qh u y q i (.row e sz Q<|s.map f) (.row e sz (F<|k5 s t (F<|c.cL s)<|k.cL p)<|(k5 s t (F<|c.cL s)<|k.cL p).map f) (int W (min (F<|k.cL p) (F<|c.cL s):Nat)):=by
 unfold Mb at h;split at h;rotate_left;cases h;rename_i ae aB cK;split at h;rotate_left;cases h;rename_i a o ai aj aZ aS;have a0:ae= #[a,o]:=by rw[<-lF (xs:=ae),aZ]
 have aX:aB= #[ai,aj]:=by rw[<-lF (xs:=aB),aS]
 subst a0;subst aX;split at h;rotate_left;cases h;rename_i aG aA;split at h;rotate_left;cases h;rename_i a4 an;split at h;rotate_left;cases h;rename_i bh aD bk bb bo bf bc bp bg d ad;split at h;rotate_left;cases h;rename_i ap;have⟨aU,aP⟩:=ap;cases h;have⟨bl,aY,j⟩:=jc.1 d;have⟨bm,a2,az⟩:=jc.1 ad;have cN:cO q.Y i=B (.row e sz Q<|s.map f):=by
  unfold xh at j;split at j
  .split at j
   next cN=>cases j;exact cN
   .cases j
  .split at j
   next cN=>cases j;exact cN
   .cases j
  .split at j
   next cN=>cases j;exact cN
   .cases j
  .split at j
   .rename_i cN;split at j
    .cases j;exact cN
    .cases j
   .cases j
  .cases j
 refine⟨cN,rfl,λ_ _ _ aM=>aM,λx rd ak w A=>?_⟩;have⟨_,ay⟩:=T0 j A<|A.op a _ ml aY;rw[aU]at az;have⟨bd,al,aF,aE,aH,aI,z,_⟩:=r3 az A<|A.op o _ ml a2;have⟨P,G,b,K⟩:=ay.dk;have⟨bn,aV,aC,au,aL,aT,aK⟩:=ay.val;rw[cQ.map,fT]at aC au aT aK aE aH;rw[cQ.map]at aI z;simp only[execOp,cK,resolve,invoke,builtin,g3,hM,gn,p5,hx,jY,aC,aE];generalize af:min (F (k.cL p)) (F (c.cL s))=g at*;have aq:HC (F<|k.cL p) (F<|c.cL s)=g:=af;by_cases N:g=0
 .rw[aeu ai aj y.type _ a4 aA an _ _ _ _ _ _ (by rw[aq,N])];simp only[gn];refine⟨_,_,rfl,fL.refl _ _,.inr ⟨_,rfl,λah _=>?_⟩,λah ab=>?_⟩
  .rw[N];exact .cY _
  .have:k5 s t (F<|c.cL s) (k.cL p)=s:=by unfold k5;rw[af,N];simp
   rw[this];have aa:F s=Q:=rz;exact⟨P,by rw[aa];exact G,dh,K.mono ab⟩
 .rcases aK with aK|⟨l,aK,a6⟩
  .omega
  rcases z with z|⟨D,z,a_⟩
  .have:=tq.1 z;rw[this]at af;simp at af;omega
  subst a6;subst z;have S:g<=F (k.cL p):=I;have bj:g<=F (c.cL s):=I;have a5:F (aF.take<|g*sz)=g*sz:=by rw[hO,aH];exact jw<|j1 _ S
  have a1:t*sz+g*sz<=Q*sz:=by rw[<-jZ];exact j1 _ I
  have ax:=G.1;have aR:∀m v,(aF.take<|g*sz)[m]?=B v->w.cell? (D.add m)=B v:=by
   intro m v aw;rw[jd]at aw;split at aw
   .exact a_ m v aw
   .cases aw
  have ar:hK rd sz (aF.take<|g*sz) (((k.cL p).map f).take g):=by have:=aI.je 0 g;simpa using this
  have aJ:=u_.one (aF:=aF.take<|g*sz) aP (by rw[a5,hO,fT,jw S]) ar (λa d=>by obtain⟨ba,_,rfl⟩:=hT.1 (tr d);exact aO ba)
  have av:=run_storeCells_cells (P:=u) l (t*sz) (aF.take<|g*sz) 0 w
   (λm aw=>by have:=G.cells aK (t*sz+m) _ (e6 I);rw[iS,gx]at this;rw[jO,this];rfl)
   (λm aw=>by
     rcases G.2 with⟨C,_⟩|⟨aW,aV,ao,aC,_,au,_⟩
     .rw[C]at aK;cases aK
     .rw[aC]at aK;cases aK;simp[sg,au]) aJ
  simp only[jO]at av;have⟨a7,a8⟩:=vS G aK (t*sz) (aF.take<|g*sz) I;have aN:=run_firstCells_some (P:=u) w sz g D (F<|k.cL p) al (aF.take<|g*sz) a5 aR;have a3:(p6 #[ai,aj] y.type #[.slice (B ⟨l,t*sz,M⟩) (F<|c.cL s) aV,.slice (B D) (F<|k.cL p) al]).run u w=.ok (goInt g) (w.setCells l (t*sz)<|aF.take<|g*sz):=by simp[p6,run_underlying aA,v3,sizeOf,typeInfo,an,aU,aq,aN,av]
  rw[a3];simp only[gn];refine⟨_,_,rfl,a8,.inr ⟨_,rfl,λah _=>.cY _⟩,λah ab=>⟨_,(by
   have aa:F (k5 s t (F<|c.cL s)<|k.cL p)=Q:=by unfold k5;simp only[fT,g9,hO,my,af]at b⊢;omega
   rw[aa];exact a7),dh,?_⟩⟩
  .unfold k5;rw[af,hN,hN,a5,<-jZ];refine hK.mono ab ?_;have aG:hK rd sz (P.take<|t*sz) ((s.take t).map f):=by have:=K.je 0 t;simpa[nx]using this
   have aD:hK rd sz (aF.take<|g*sz) (((k.cL p).take g).map f):=by rw[nx];exact ar
   have aQ:hK rd sz (P.drop<|(t+g)*sz) ((s.drop<|t+g).map f):=by
    have:=K.je (t+g)<|Q-(t+g);have C:(P.drop<|(t+g)*sz).take ((Q-(t+g))*sz)=P.drop ((t+g)*sz):=k9 Ln;have a9:((s.map f).drop<|t+g).take (Q-(t+g))=(s.drop<|t+g).map f:=by rw[up];exact k9 ahr
    rwa[C,a9]at this
   have am:t<=F s:=ahs;refine(aG.append aD ?_).append aQ ?_
   .simp only[fT,hO];rw[jw E6,jw am]
   .simp only[fT,g9,hO,a5];rw[jw E6,jw am,jw S,jZ]
structure ES(x ai:dY)(d0:Nat):Prop where
 dn:∀i,ai.dn i=x.dn i
 dM:∀i,i≠d0->ai.dM i=x.dM i
 Us:∀i,(ai.dM i).2=(x.dM i).2
def ea.hv{rd l:ez}(d:rd.gU l){x ai:dY}{d0:Nat}(g:ES x ai d0){v:dp}{a:V}(h:ea rd x v a):ea l ai v (a.ho d0):=by
 cases a with
 |cY p=>exact h.mono d
 |e1 m=>exact h.mono d
 |box i aq=>simp only[V.ho,ea,g.dn]at*;exact h
 |dk i=>simp only[V.ho];split;·trivial
        next b=>simp only[ea,g.dM i b]at*;exact h
 |row i n=>simp only[V.ho];split;·trivial
           next b=>simp only[ea,g.dM i b]at*;exact h
 |ip i aq n=>simp only[V.ho,ea,g.dn]at*;exact h
 |sub i q t n=>simp only[V.ho];split;·trivial
               next b=>simp only[ea,g.dM i b]at*;exact h
 |hn i q j aq=>simp only[V.ho];split;·trivial
               next b=>simp only[ea,g.dM i b]at*;exact h
 |gQ i=>simp only[V.ho];split;·trivial
        next b=>simp only[ea,g.dM i b]at*;exact h
 |hV i j y=>simp only[V.ho];split;·trivial
            next b=>simp only[ea,g.dM i b]at*;exact h
 |any=>trivial
 |gf c m=>exact h.elim
 |d_ q tag n ae=>
  refine⟨h.1.mono d,?_⟩;rcases tag with _|_|o
  .trivial
  .exact h.2
  .have k:=h.2;simp only[eA,g.Us]at k⊢;exact k
def fA.hv{rd k:ez}(d:rd.gU k){x ai:dY}{d0:Nat}(g:ES x ai d0){v:dp}{a:V}(h:fA rd x v a):fA k ai v (a.hv d0):=by
 cases a with
 |gf c D=>have⟨l,G,b,s⟩:=h;refine⟨l,G,rz,λm o ad=>?_⟩;rw[gy]at ad;obtain⟨C,A,rfl⟩:=gG.1 ad;have⟨p,u,z⟩:=s m C A;exact⟨p,u,z.hv d g⟩
 |cY p=>exact ea.hG<|ea.hv d g (a:=.cY p) h
 |e1 p=>exact ea.hG<|ea.hv d g (a:=.e1 p) h
 |box i aq=>exact ea.hG<|ea.hv d g (a:=.box i aq) h
 |dk i=>exact ea.hG<|ea.hv d g (a:=.dk i) h
 |row i n=>exact ea.hG<|ea.hv d g (a:=.row i n) h
 |ip i aq n=>exact ea.hG<|ea.hv d g (a:=.ip i aq n) h
 |sub i q t n=>exact ea.hG<|ea.hv d g (a:=.sub i q t n) h
 |hn i q j aq=>exact ea.hG<|ea.hv d g (a:=.hn i q j aq) h
 |gQ i=>exact ea.hG<|ea.hv d g (a:=.gQ i) h
 |hV i j y=>exact ea.hG<|ea.hv d g (a:=.hV i j y) h
 |any=>trivial
 |d_ q tag n ae=>exact ea.hG<|ea.hv d g (a:=.d_ q tag n ae) h
variable{K:fb}{x ai:dY}{w aE:d2}{n:Nat}{t:Act}
def gW.N0(h:gW K x n t w q){i:Nat}{eM r:eD}(A:V->V)(cN:cO q.Y i=B eM)(ap:∀e,ai.dn e=x.dn e)(ar:∀e,e≠i->ai.dM e=x.dM e)(ok:V->Bool)(an:∀D v,cO q.tmps D=B v->v.eY ok=T)(ao:∀e a,cO q.Y e=B a->a.eY ok=T)
  (ah:(fd K x q.Y w).gU (fd K ai (hB i r (q.iJ A).Y) aE)->∀v a,ok a=T->fA (fd K x q.Y w) x v a->fA (fd K ai (hB i r (q.iJ A).Y) aE) ai v (A a))(af:fL w (er x i eM) aE)(ad:∀l y,er ai i r l y->er x i eM l y\/w.heap.size<=l)(s:∀S,r≠.box S)(aq:eM.kr=Z)
  (aU:(fd K x q.Y w).gU (fd K ai (hB i r (q.iJ A).Y) aE)->iv (fd K ai (hB i r (q.iJ A).Y) aE) ai aE i r):gW K ai n t aE ((q.iJ A).f3 i r)/\(fd K x q.Y w).gU (fd K ai (hB i r (q.iJ A).Y) aE):=by
 have ax:∀e,(e==i)=Z->e≠i:=λe h=>qe
 have N:∀e,(e==i)=T->e=i:=λe h=>qe
 have Q:∀e a,(e==i)=Z->cO q.Y e=B a->ai.dn e=x.dn e/\ai.dM e=x.dM e:=λe a G _=>⟨ap e,ar e<|ax e G⟩
 have ag:∀e a,e≠i->cO (hB i r (q.iJ A).Y) e=B a->∃o,cO q.Y e=B o/\a=o.map A:=by intro e a al d;rw[kZ,dA (l5 al)]at d;simp only[cP.iJ,sT (λa=>eD.map A a)]at d;have⟨o,G,b⟩:=gG.1 d;exact⟨o,G,b.symm⟩
 have m:cO (hB i r (q.iJ A).Y) i=B r:=ahe;have ae:fL w (λl y=>∃e a,(e==i)=T/\cO q.Y e=B a/\er x e a l y) aE:=af.kN λl y a=>⟨i,eM,dh,cN,a⟩
 have aa:∀e a l y,(e==i)=T->cO (hB i r (q.iJ A).Y) e=B a->er ai e a l y->(∃C ak,(C==i)=T/\cO q.Y C=B ak/\er x C ak l y)\/w.heap.size<=l:=by
  intro e a l y G b u;have:=N e G;subst this;rw[m]at b;cases b;rcases ad l y u with k|k
  .exact .inl ⟨e,eM,dh,cN,k⟩
  .exact .inr k
 have aH:=ui (K:=K) (x:=x) (ai:=ai) (w:=w) (aE:=aE) (h:=q.Y) (aF:=hB i r (q.iJ A).Y) h.eV (·==i) Q (λe a G b=>let⟨o,u,k⟩:=ag e a (ax e G) b;⟨o,A,u,k⟩) ae aa;have g:=h.eV.step (ai:=ai) (aE:=aE) (aF:=hB i r (q.iJ A).Y) (·==i) A ok Q (λe a G b=>let⟨o,u,k⟩:=ag e a (ax e G) b;⟨o,u,k,ao e o u⟩) ae aa
  (λe C a au l y G b aR=>absurd ((N e G).trans (N C b).symm) aR) (λp a d P=>ah aH p a d P)
  (λe a G b=>ahg)
  (λe S G _ b=>ahi)
  (λe a G b _ l y am=>by
    have:=N e G;subst this;rw[m]at b;cases b;rcases ad l y am with k|k
    .exact h.eV.iA e eM cN aq l y k
    .exact .inl<|mY h.eV.gJ.size k)
 refine⟨⟨h.defers,h.size,h.oo,g,λD v ab=>?_⟩,aH⟩;simp only[cP.f3,cP.iJ,sT (λv=>cT.map A v)]at ab;obtain⟨j,aj,rfl⟩:=gG.1 ab;have⟨p,G,b⟩:=h.tmps D j aj;exact⟨p,G,b.imp (z:=ok) (λv a d P=>ah aH v a d P)<|an D j aj⟩
def rX(q:cP):cT->X (Nat×Nat×Nat×Nat×E (E V)×Nat)
 |.c (.dk i)=>match cO q.Y i with
  |some (.row e sz Q ae)=>B (i,e,sz,Q,ae,Q)
  |_=>M
 |.c (.row i A)=>match cO q.Y i with
  |some (.row e sz Q ae)=>B (i,e,sz,Q,ae,A)
  |_=>M
 |_=>M
def qk(u:dw)(q:cP)(y:dy):X (Nat×Nat×Nat×Nat×Nat×E (E V)×Nat×E (E V)×cQ):=match y.op with
 |.call {callee:=.builtin .append,args:=ae,argTypes:=k}=>match ae.toList,k.toList with
  |[a,o],[d,j]=>match u.underlying d with
   |some (.slice e)=>match u.info? e with
    |some b=>match(dZ q a).bind<|rX q,(dZ q o).bind (mU q b.size)with
     |some (i,g,sz,Q,t,A),B (l,c)=>if d=j/\b.zero.map (·.cells.size)=B b.size/\0<b.size/\g=e/\sz=b.size then B (i,e,b.size,b.bytes,Q,t,A,l,c)else M
     |_,_=>M
    |none=>M
   |_=>M
  |_,_=>M
 |_=>M
theorem XD{ag:Type}{u:dw}{K:fb}{n:Nat}{ops:Array dy}{y:dy}{q:cP}{i e sz aD Q A:Nat}(f:ag->E V)(aq:∀a,(f a).all V.one=T){j aB az:E ag}{c:cQ}(aj:ej aD (j.take A) (c.cL aB)=B az)(h:qk u q y=B (i,e,sz,aD,Q,j.map f,A,aB.map f,c))(a7:hF ops y q=B T)(a5:jB n y=T):
  km u K n ops y q (((q.iJ<|V.hv i).f3 i<|.row e sz (F az)<|az.map f).put y.dst<|.c<|.dk i):=by
 unfold qk at h;split at h;rotate_left;cases h;rename_i ae aU cK;split at h;rotate_left;cases h;rename_i a o aa bu bn bf;have bo:ae= #[a,o]:=by rw[<-lF (xs:=ae),bn]
 have bg:aU= #[aa,bu]:=by rw[<-lF (xs:=aU),bf]
 subst bo;subst bg;split at h;rotate_left;cases h;rename_i aG aA;split at h;rotate_left;cases h;rename_i b hi;split at h;rotate_left;cases h;rename_i bG bH bP bx bz bN bC bD d ad;split at h;rotate_left;cases h;rename_i ap;obtain⟨rfl,N,aQ,rfl,rfl⟩:=ap;cases h;have⟨an,N,br⟩:=gG.1 N;simp only[ej]at aj;split at aj;rotate_left;cases aj;rename_i aH;cases aj;have⟨bR,bm,z⟩:=jc.1 d;have⟨bS,bp,bq⟩:=jc.1 ad;refine nj a7 λx t w r bv ah a1=>?_
 have ay:=r.kM.o y;have aS:=ay.op a _ ml bm;have aR:=r3 bq ay<|ay.op o _ ml bp;rw[cQ.map]at aR;obtain⟨cN,ba⟩:cO q.Y i=B (.row e b.size Q (j.map f))/\∃k p,(x.dM i).1=.slice k Q p/\t.eval a=.slice k A p/\A<=Q:=by
  unfold rX at z;split at z
  .split at z
   next cN=>cases z;have⟨P,G,_⟩:=r.eV.gg i _ cN;have⟨k,p,al,_⟩:=kK G;have⟨aC,_⟩:=aS;exact cU
   .cases z
  .split at z
   next cN=>cases z;have⟨P,G,_⟩:=r.eV.gg i _ cN;have⟨k,p,al,_⟩:=kK G;have⟨bB,bw,bF,aC,au,aL⟩:=aS;rw[al]at aC;cases aC;exact cU
   .cases z
  .cases z
 have⟨k,p,a0,bk,a8⟩:=ba;have⟨P,aZ,S,bd⟩:=r.eV.gg i _ cN;have bJ:F j=Q:=QQ;have bh:=aZ.1;have D:w.ownsRow 0 e b.size (.slice k A p) A (P.take<|A*b.size)/\(xG k A p).ownBlock=(x.dM i).1.ownBlock:=by
  have a9:A*b.size<=Q*b.size:=j1 _ a8;refine⟨⟨by rw[hO,bh];omega,?_⟩,by rw[a0];cases k<;>rfl⟩;rcases aZ.2 with⟨aC,au⟩|⟨aW,aV,ao,aC,au,aL,aT,aK,a6,bs⟩
  .rw[a0]at aC;cases aC;exact .inl ⟨by have:A=0:=by omega
                                       rw[this],I⟩
  .rw[a0]at aC;cases aC;refine .inr ⟨aW,p,ao,rfl,au,aL,I,aK,a6,?_⟩;rw[<-bs,ts,jw a9]
 have⟨D,aI⟩:=D;have bc:hK (fd K x q.Y w) b.size (P.take<|A*b.size) ((j.take A).map f):=by have:=bd.je 0 A;simpa[nx]using this
 have ax:F (j.take A)=A:=yB;rw[ax]at aH;unfold ln;simp only[execOp,cK,resolve,invoke,builtin,g3,hM,gn,p5,hx,jY];rw[bk];generalize bK:t.eval o=bQ at*;obtain⟨am,ar,aF,rfl,aM,aO,bl,_⟩:=aR;rw[fT]at aM⊢;generalize bI:c.cL aB=s at*;have aP:F (j.take A++s)=A+F s:=by rw[g9,ax]
 have bb:hK (fd K x q.Y w) b.size (P.take (A*b.size)++aF) ((j.take A++s).map f):=by rw[hN];refine bc.append aO ?_;rw[fT,ax];exact D.1
 obtain⟨aY,aE,aC,au,aL,aT⟩:∃aY aE,(qz #[aa,aa] y.type #[.slice k A p,.slice am (F s) ar]).run u w=.ok aY aE/\aE.ownsRow 0 e b.size aY (A+F s) (P.take (A*b.size)++aF)/\fL w (er x i (.row e b.size Q (j.map f))) aE/\∀g,aY.ownBlock=B g->(x.dM i).1.ownBlock=B g\/w.heap.size<=g:=by
  by_cases aw:s=[]
  .subst aw;have bj:aF=[]:=mw cU;have⟨_,_,al,bL,_⟩:=kK D;injection al with _ _ bM
   refine⟨_,w,NG aa y.type e b aA hi k am A p ar dd,by simpa[bj]using D,fL.refl _ _,λg af=>.inl cU⟩
  .have a_:0<F s:=Ck.2 aw;obtain⟨ab,rfl,a4⟩:∃ab,am=B ab/\∀m v,aF[m]?=B v->w.cell? (ab.add m)=B v:=by
    rcases bl with dI|dI
    .exact absurd cU aw
    .exact dI
   have aX:=u_.one aQ cU aO λa d=>Xn
   have⟨aY,aE,aC,au,aL,aT⟩:=T4 (u:=u) aa y.type e b an b.size b.bytes aA hi N rfl rfl br aQ _ _ _ D ab (F s) ar aF aM a4 aX a_ wI aH.1;exact⟨aY,aE,aC,au,aL.kN (λl y h=>by simp only[er];rw[<-aI];exact h.1),λg af=>by rw[<-aI];exact aT g af⟩
 rw[aC];simp only[gn,ly];have⟨bA,bE,a2,_,_,_,_⟩:=kK au
 let ai:dY:={dn:=x.dn,dM:=λe=>if e=i then(aY,(x.dM i).2)else x.dM e};have av:ai.dM i=(aY,(x.dM i).2):=E4;have aN:ES x ai i:=⟨λ_=>rfl,λe C=>E5,λe=>by by_cases C:e=i<;>simp[ai,C]⟩;have⟨bt,ak⟩:=r.N0 (ai:=ai) (aE:=aE) (r:=.row e b.size (F<|j.take A++s)<|(j.take A++s).map f) (V.hv i) cN ef aN.dM (λ_=>T) (λ_ v _=>v.qW) (λ_ a _=>a.qW) (λak v a _ a3=>a3.hv ak aN) aL (λl bO aJ=>by simp only[er,av]at aJ;exact aT l aJ) (λ_ C=>lL) rfl (λak=>⟨_,by rw[av,aP];exact au,dh,bb.mono ak⟩)
 refine a1 _ _ ⟨ai,bt.put y.dst (nG a5) ?_⟩;simp only[fM,fA,ea];rw[av];exact⟨rfl,.inl ⟨_,_,_,a2⟩⟩
def V.q_(i sz n:Nat)(ae:E (E V)):V->V
 |.dk e=>if e=i then .d_ sz (i+2) n ae else .dk e
 |.gQ e=>if e=i then .d_ sz 1 n ae else .gQ e
 |.row e A=>if e=i then .d_ sz 0 A (ae.take A)else .row e A
 |a=>a.ho i
def V.ks(i sz n:Nat)(ae:E (E V)):V->V
 |.gf f b=>.gf f<|b.map<|V.q_ i sz n ae
 |a=>a.q_ i sz n ae
def w_(i:Nat):V->Bool
 |.d_ _ tag _ _=>tag !=i+2
 |_=>T
def vO(i:Nat):V->Bool
 |.gf _ b=>b.all<|w_ i
 |a=>w_ i a
def NM(q:cP)(i:Nat):X cP:=match cO q.Y i with
 |some (.row e sz n ae)=>if q.tmps.all (λz=>z.2.eY<|vO i)&&q.Y.all (λz=>z.2.eY<|vO i)then B ((q.iJ<|V.ks i sz n ae).f3 i<|.fw e sz n)else M
 |_=>M
structure Qx(x ai:dY)(d0:Nat):Prop where
 dn:∀i,ai.dn i=x.dn i
 dM:∀i,i≠d0->ai.dM i=x.dM i
 na:∀i,(ai.dM i).1=(x.dM i).1
def ea.ks{rd l:ez}(m:rd.gU l){x ai:dY}{d0 sz n:Nat}{ae:E (E V)}(g:Qx x ai d0)(cR:∀v,ea rd x v (.dk d0)->ea l ai v (.d_ sz (d0+2) n ae))(u:∀v A,ea rd x v (.row d0 A)->ea l ai v (.d_ sz 0 A (ae.take A))){v:dp}{a:V}(d:w_ d0 a=T)(h:ea rd x v a):ea l ai v (a.q_ d0 sz n ae):=by
 cases a with
 |cY p=>exact h.mono m
 |e1 s=>exact h.mono m
 |box i aq=>simp only[V.q_,V.ho,ea,g.dn]at*;exact h
 |dk i=>
  simp only[V.q_];split
  next b=>subst b;exact cR v h
  .simp only[ea,g.na]at*;exact h
 |row i n=>
  simp only[V.q_];split
  next b=>subst b;exact u v n h
  .simp only[ea,g.na]at*;exact h
 |ip i aq n=>simp only[V.q_,V.ho,ea,g.dn]at*;exact h
 |sub i q t n=>simp only[V.q_,V.ho];split;·trivial
               .simp only[ea,g.na]at*;exact h
 |hn i q j aq=>simp only[V.q_,V.ho];split;·trivial
               .simp only[ea,g.na]at*;exact h
 |hV i j y=>simp only[V.q_,V.ho];split;·trivial
            next b=>simp only[ea,g.dM i b]at*;exact h
 |gQ i=>
  simp only[V.q_];split
  .rename_i b;subst b;have G:ea rd x v (.dk i):=by
    refine⟨h.1,?_⟩;rcases h.2 with C|⟨t,A,C⟩
    .exact .inl ⟨M,0,0,by rw[<-h.1];exact C⟩
    .exact .inl ⟨B t,A,A,by rw[<-h.1];exact C⟩
   have k:=(cR v G).1;refine⟨k,?_⟩;rcases h.2 with C|⟨t,A,C⟩
   .exact .inl C
   .refine .inr ⟨t,?_⟩;subst C;cases k with
    |nil=>rfl
    |d_=>rfl
  .simp only[ea,g.na]at*;exact h
 |any=>trivial
 |gf c s=>exact h.elim
 |d_ q tag n ae=>
  refine⟨h.1.mono m,?_⟩;rcases tag with _|_|o
  .trivial
  .exact h.2
  .have k:=h.2;have ax:o≠d0:=by intro C;subst C;simp[w_]at d
   simp only[eA,g.dM o ax]at k⊢;exact k
def fA.ks{rd s:ez}(k:rd.gU s){x ai:dY}{d0 sz n:Nat}{ae:E (E V)}(g:Qx x ai d0)(cR:∀v,ea rd x v (.dk d0)->ea s ai v (.d_ sz (d0+2) n ae))(l:∀v A,ea rd x v (.row d0 A)->ea s ai v (.d_ sz 0 A (ae.take A))){v:dp}{a:V}(d:vO d0 a=T)(h:fA rd x v a):fA s ai v (a.ks d0 sz n ae):=by
 cases a with
 |gf c P=>have⟨C,G,b,D⟩:=h;refine⟨C,G,rz,λm o ad=>?_⟩;rw[gy]at ad;obtain⟨z,u,rfl⟩:=gG.1 ad;have⟨p,K,N⟩:=D m z u;exact⟨p,K,N.ks k g cR l<|fp.1 d z<|lp u⟩
 |cY p=>exact ea.hG<|ea.ks k g cR l (a:=.cY p) d h
 |e1 p=>exact ea.hG<|ea.ks k g cR l (a:=.e1 p) d h
 |box i aq=>exact ea.hG<|ea.ks k g cR l (a:=.box i aq) d h
 |dk i=>exact ea.hG<|ea.ks k g cR l (a:=.dk i) d h
 |row i n=>exact ea.hG<|ea.ks k g cR l (a:=.row i n) d h
 |ip i aq n=>exact ea.hG<|ea.ks k g cR l (a:=.ip i aq n) d h
 |sub i q t n=>exact ea.hG<|ea.ks k g cR l (a:=.sub i q t n) d h
 |hn i q j aq=>exact ea.hG<|ea.ks k g cR l (a:=.hn i q j aq) d h
 |gQ i=>exact ea.hG<|ea.ks k g cR l (a:=.gQ i) d h
 |hV i j y=>exact ea.hG<|ea.ks k g cR l (a:=.hV i j y) d h
 |any=>trivial
 |d_ q tag n ae=>exact ea.hG<|ea.ks k g cR l (a:=.d_ q tag n ae) d h
theorem R.aeB{K:fb}{w:d2}{n:Nat}{t:Act}{q:cP}{i e sz Q:Nat}{ae:E (E V)}(h:R K n t w q)(cN:cO q.Y i=B (.row e sz Q ae))(ak:∀an v,cO q.tmps an=B v->v.eY (vO i)=T)(al:∀e a,cO q.Y e=B a->a.eY (vO i)=T):R K n t w ((q.iJ (V.ks i sz Q ae)).f3 i (.fw e sz Q)):=by
 have⟨x,h⟩:=h;have⟨P,G,D,N⟩:=h.eV.gg i _ cN;have⟨bb,a4,a0,bc,a9,a5,a7⟩:=kK G
 let ai:dY:={dn:=x.dn,dM:=λe=>if e=i then((x.dM i).1,(x.dM i).1)else x.dM e};have s:ai.dM i=((x.dM i).1,(x.dM i).1):=E4;have u:Qx x ai i:=⟨λ_=>rfl,λe C=>E5,λe=>by by_cases C:e=i<;>simp[ai,C]⟩;refine⟨ai,(h.N0 (ai:=ai) (aE:=w) (r:=.fw e sz Q) (V.ks i sz Q ae) cN ef u.dM (vO i) ak al (λm v a d ah=>ah.ks m u (λv ab=>?_) (λv A ab=>?_) d) (fL.refl _ _) (λl aw ad=>.inl (by simp only[er,s]at ad⊢;exact ad.1)) (λ_ C=>lL) rfl (λm=>⟨P,by rw[s];exact G.m⟩)).1⟩
 all_goals(
  have ag:∀b,(x.dM i).1.ownBlock=B b->∀g v,P[g]?=B v->g<Q*sz->fd K ai (hB i (.fw e sz Q) (q.iJ<|V.ks i sz Q ae).Y) w b g=B v:=by
   intro b j g v ab af;have S:=G.cells j g v ab;rw[iS,gx]at S;unfold fd;rw[dA,dA (λC=>(h.eV.iA i _ cN rfl b g j).elim (λau=>Nat.not_lt.2 au C.1) C.2)]
   .exact S
   .rintro⟨z,ax,k,y⟩;rw[kZ]at k;split at k
    next p=>cases k;simp only[er]at y;omega
    next p=>simp only[cP.iJ,sT (λa=>eD.map (V.ks i sz Q ae) a)]at k;obtain⟨ao,am,rfl⟩:=gG.1 k;rw[pg,qZ (x:=x) (ai:=ai) ⟨rfl,u.dM z<|l5 p⟩]at y;exact h.eV.lR z i ao _ b g (l5 p) am cN y j)
 .obtain⟨rfl,_⟩:=ab;refine⟨?_,?_⟩
  .rcases a7 with dI|⟨b,o,j⟩
   .have d:ae=[]:=mw (D.trans dI);subst d;rw[a0,dI];exact .nil sz _ _ a9
   .rw[a0,o];exact B6 (l:=b) (aF:=P) (N.mono m) D bc a9 λg v ab af=>ag b j g v ab af
  .show _<=mc (ai.dM i).2/\(_=mc (ai.dM i).2->(x.dM i).1=(ai.dM i).2);rw[s,a5];exact⟨jq _,λ_=>rfl⟩
 .obtain⟨aq,ap,ar,aC,rfl,aL⟩:=ab;rw[a0]at aC;cases aC;refine⟨?_,trivial⟩;rcases a7 with dI|⟨b,o,j⟩
  .have aj:A=0:=by omega
   subst aj;exact .nil sz _ _ a9
  .rw[o];have aa:=N.je 0 A;rw[zD,v4,v4]at aa;have av:A*sz<=Q*sz:=j1 _ aL;refine B6 (l:=b) (aF:=P.take<|A*sz) (aa.mono m) yB I a9 λg v ab af=>ag b j g v ?_ I
   rwa[jd,dE af]at ab
def R.ks{K:fb}{w:d2}{n:Nat}{t:Act}{q ao:cP}{i:Nat}(h:R K n t w q)(aj:NM q i=B ao):R K n t w ao:=by unfold NM at aj;split at aj;rotate_left;cases aj;rename_i e sz Q ae cN;split at aj;rotate_left;cases aj;rename_i ap;cases aj;simp only[fz,fp]at ap;exact h.aeB cN (λb v ab=>ap.1 _ (iM ab)) λe a d=>ap.2 _ (iM d)
def aiw{u:dw}{K:fb}{n:Nat}{ah:fE->cP->Prop}{N:dT}(i:Nat)(a:N.pre=T)(g:TS u K n (N.ra (NM N.d1 i)) ah):TS u K n N ah:=ve (λ_ _ _ aj r=>r.ks aj) a g
def vm(w:d2):ez:=λl y=>w.cell? ⟨l,y,M⟩
def u_.Sw{rd:ez}{w:d2}{p:dp}{sz:Nat}{ae:E (E V)}(h:u_ rd w p sz ae)(ay:∀l y v,rd l y=B v->w.cell? ⟨l,y,M⟩=B v):h2 (vm w) p (.d_ sz 0 (F ae) ae):=by
 obtain⟨t,c,aF,rfl,G,k,b,s,g,i⟩:=h;rcases b with b|⟨q,rfl,b⟩
 .subst b;exact .nil sz t c g
 .rcases i q rfl with i|⟨l,y,rfl⟩
  .subst i;exact .nil sz _ c g
  .have aA:∀j a m o,ae[j]?=B a->a[m]?=B o->∃p,aF[j*sz+m]?=B p/\h2 rd p o:=λj a m o=>k.2 j a m o
   refine .d_ l y _ c sz ae (λj m=>(aF[j*sz+m]?).getD undef) rfl s g k.1 (λj a m o d ad=>?_) λj a m o d ad=>?_
   .have⟨p,aC,au⟩:=aA j a m o d ad;have:=b _ _ aC;rw[iS,<-lH]at this;rwa[aC]
   .have⟨p,aC,au⟩:=aA j a m o d ad;rw[aC];exact au.mono ay
def vz(q:cP)(a:E Nat):cT->X cT
 |.c (.dk i)=>match cO q.Y i with
  |some (.row _ sz n ae)=>B<|.c<|.d_ sz 0 n ae
  |_=>M
 |.c (.ip i aq A)=>match mU q 1 (.c<|.ip i aq A)with
  |some (ae,.c_)=>B<|.c<|.d_ 1 0 (F ae) ae
  |_=>M
 |v=>B<|tX a v
def Sh{a:E Nat}{v ak:cT}(h:vz q a v=B ak){x:dY}{rd:ez}{t:Act}{w:d2}{y:dy}(ab:lJ x rd t w q y){p:dp}(aA:fM rd x p v):fM (vm w) x p ak:=by
 unfold vz at h;split at h
 .rename_i i;split at h
  next e sz n ae cN=>have d:=r3 (sz:=sz) (v:=.c<|.dk i) (ae:=ae) (c:=.c_) (by simp[mU,cN]) ab aA;have⟨P,_,b,_⟩:=ab.gg i _ cN;cases h;rw[<-b];exact⟨d.Sw ab.oy,trivial⟩
  .cases h
 .rename_i i aq A;split at h
  next ae aj=>cases h;exact⟨(r3 aj ab aA).Sw ab.oy,trivial⟩
  .cases h
 .cases h;exact tY a (aA.mono λl y v=>ab.oy l y v)
def Bt(q:cP):E (E Nat)->E cT->X (E cT)
 |_,[]=>B []
 |a,v::d=>match vz q (a.headD []) v,Bt q a.tail d with
  |some ak,B b=>B<|ak::b
  |_,_=>M
def aau{q:cP}:∀(g:E (E Nat)) (b a:E cT),Bt q g b=B a->F b=F a/\∀(j:Nat) (v ak:cT),b[j]?=B v->a[j]?=B ak->∃o,vz q o v=B ak
 |_,[],a,h=>by cases h;exact⟨rfl,λj v ak G=>ET⟩
 |g,v::b,a,h=>by
  simp only[Bt]at h;split at h
  .rename_i ak k G l;cases h;have⟨aI,m⟩:=aau g.tail b k l;refine⟨QR,λj p i ab d=>?_⟩;cases j with
   |zero=>simp at ab d;subst ab;subst d;exact⟨_,G⟩
   |succ j=>simp at ab d;exact m j p i ab d
  .cases h
def V.jh:V->Bool
 |.cY _=>T
 |_=>Z
def amd{rd b:ez}{x ai:dY}{v:dp}{a:V}(d:a.jh=T)(h:fA rd x v a):fA b ai v a:=by cases a<;>simp only[V.jh,j0]at d;have:=hw (x:=x) h;subst this;exact .cY _
def aaB{r:cT}{f:gk}{b args:E cT}(z:E (E Nat))(K:lh q y=B (f,b))(D:iz u f=T)(C:Bt q z b=B args)(ay:r.eY V.jh=T)(Y:ih u f args [] r []):jP u y q r:=by
 intro x rd t w s;have⟨P,G,k,A⟩:=vp K D s;have⟨ae,S⟩:=aau z b args C;have N:=Y (vm w) x w P (λ_ _ _ h=>h) dd (λj o ad=>by
  have hi:j<F b:=by have:=(ie.1 ad).1;omega
  have⟨p,aC,au⟩:=k j _ (e6 hi);have⟨ag,aL⟩:=S j _ o (e6 hi) ad;exact⟨p,aC,Sh aL s au⟩) (λi a d=>u5) (λi aa a aj l y _ d=>u5) (λl y d=>(rO d).elim)
 unfold mSafe;rw[A];refine N.mono λe aE ap=>?_
 obtain⟨p,ai,rfl,af,_,_,_,_,Q⟩:=ap;have m:Ext w aE:=(af.kN λl y a=>(rO a)).ext;refine⟨p,rfl,m,λah _ _=>?_⟩;exact((Q (vm aE) (λl y v ab=>(fL.rS m).cell ab dh) λl y p _ _ k=>k).1).t5 (λv a d g=>amd d g) ay
def mu(s:E Int):E UInt8:=s.map λn=>n.toNat.toUInt8
def L2(s:E Int):ByteArray:=⟨(mu s).toArray⟩
def FU(t l:E Int):Int:=Go.Lib.compareBytes (mu t) (mu l)
def aev{u:dw}{w:d2}:∀(s:E Int) (l y:Nat) (a:ByteArray),(∀m n,s[m]?=B n->w.cell? ⟨l,y+m,M⟩=B (.int cH n))->(HD ⟨l,y,M⟩ (F s) a).run u w=.ok ⟨a.data++(mu s).toArray⟩ w
 |[],l,y,a,_=>by simp[HD,mu]
 |n::s,l,y,a,h=>by
  have dI:=h 0 n rfl;rw[jO]at dI;have b:=aev (u:=u) s l (y+1) (a.push n.toNat.toUInt8) (λm A aw=>by have:=h (m+1) A lB;rw[<-this];congr 2;omega)
  have cN:(load ⟨l,y,M⟩).run u w=.ok (.int cH n) w:=by simp[load,mZ,dI]
  simp only[l6,HD,g3,cN,gn,iS,b];congr 2;simp[mu,ByteArray.push]
theorem aet{rd:ez}{w:d2}{p:dp}{s:E Int}(h:u_ rd w p 1 (s.map (c4 cH))):(zF p).run u w=.ok (L2 s) w:=by
 obtain⟨t,c,aF,rfl,G,g,a,j,k,d⟩:=h;rw[fT]at G⊢;cases t with
 |none=>
  rcases a with a|⟨b,C,_⟩
  .have:=tq.1 a;subst this;simp[zF,L2,mu];rfl
  .cases C
 |some b=>
  by_cases cN:s=[]
  .subst cN;simp[zF,L2,mu,HD];rfl
  .have aR:¬s.map (c4 cH)=[]:=λC=>cN cU
   rcases d b rfl with d|⟨l,i,rfl⟩
   .exact absurd d aR
   rcases a with a|⟨b,C,a⟩
   .exact absurd a aR
   cases C;simp only[zF];rw[aev s l i .empty]
   .simp[L2]
   .intro m n aw;have⟨v,aC,au⟩:=g.2 m _ 0 (.cY<|.int cH n) (by rw[gy,aw];rfl) rfl;have:=a _ _ aC;rw[iS,uq,jO]at this;rw[this];cases au;rfl
structure ON(u:dw)(f:gk)(e:Array dp->Sem dp):Prop where
 alW:∃a,u.funcs[f]?=B a/\(!(a.name== "runtime.NumGoroutine")&&a.body.isNone&&(U8 a).isNone)=T/\Extern.find a=B e
def RU(q:cP)(y:dy):X (gk×E (E V)×cQ×E (E V)×cQ):=match y.op with
 |.call {callee:=.value d,args:=ae,argTypes:=_}=>match(dZ q d).bind Si,ae.toList with
  |some (f,[]),[a,o]=>match(dZ q a).bind<|mU q 1,(dZ q o).bind (mU q 1)with
   |some (t,c),B (l,b)=>B (f,t,c,l,b)
   |_,_=>M
  |_,_=>M
 |_=>M
def alg{f:gk}{k m:E Int}{g i:cQ}(d:ON u f Cm)(h:RU q y=B (f,k.map (c4 cH),g,m.map (c4 cH),i)):jP u y q (int W (FU (g.cL k) (i.cL m))):=by
 unfold RU at h;split at h;rotate_left;cases h;rename_i C ae aq cK;split at h;rotate_left;cases h;rename_i ap a o ab aj;have al:ae= #[a,o]:=by rw[<-lF (xs:=ae),aj]
 subst al;split at h;rotate_left;cases h;rename_i t c l ao D P;cases h;refine iH.jC λx rd ak w b=>?_
 have⟨ag,ad,af⟩:=jc.1 ab;have⟨ai,K,N⟩:=jc.1 D;have⟨ah,a1,aJ⟩:=jc.1 P;have⟨z,aC,au⟩:=ak8 (b.op C _ ml ad) af;have S:z= #[]:=Array.eq_empty_of_size_eq_zero (by rw[au.1];rfl);subst S;have p:=r3 N b<|b.op a _ ml K;have s:=r3 aJ b<|b.op o _ ml a1;rw[cQ.map]at p s;have aG:=aet (u:=u) p;have aD:=aet (u:=u) s;have⟨A,am,j,an⟩:=d.alW;simp only[fz,xA]at j;have Q:(callFunc f #[ak.eval a,ak.eval o]).run u w=.ok (.value<|.int W<|FU (g.cL k)<|i.cL m) w:=by
  have cR:(U8 A)=M:=by simpa using j.2
  have aa:(Cm #[ak.eval a,ak.eval o]).run u w=.ok (.int W<|FU (g.cL k)<|i.cL m) w:=by change mZ u (do pure<|goInt<|afL (<-zF (ak.eval a))<| <-zF (ak.eval o)) w=_;simp only[g3,aG,aD,gn,hM];rw[Go.Lib.cmp_eq];rfl
  simp only[callFunc,program,g3,mZ,am,j.1.1,j.1.2,cR,an,if_true,j0,if_false,mark,aa,gn,hM]
 refine⟨_,?_,.cY _⟩;simp only[execOp,cK,resolve,aC,g3,invoke,p5,hx,jY];exact Q
def N6(u:dw)(q:cP)(y:dy):X (Nat×Nat×Nat×Int×Int):=match y.op with
 |.slice j a g hi M=>match dZ q a,u.underlying j with
  |some (.c (.box i aq)),B (.array n e)=>match q.lj i with
   |some b=>match u.info? e,qP q 0 g,qP q n hi with
    |some d,B (_,t),B (_,l)=>if d.size=1/\aq+n<=F b then B (i,aq,n,t,l)else M
    |_,_,_=>M
   |none=>M
  |_,_=>M
 |_=>M
def aaN{i aq n:Nat}{t l:Int}(h:N6 u q y=B (i,aq,n,t,l))(j:decide (0<=t/\t<=l/\l<=(n:Int))=T)(cR:decide (n<=140737488355328)=T):jP u y q (.c (.ip i (aq+t.toNat) (l.toNat-t.toNat))):=by
 unfold N6 at h;split at h;rotate_left;cases h;rename_i ae s C hi cK;split at h;rotate_left;cases h;rename_i K aa S aG d aA;split at h;rotate_left;cases h;rename_i D cN;split at h;rotate_left;cases h;rename_i Q ah z ag A m p k;split at h;rotate_left;cases h;rename_i ap;cases h;have⟨aU,aP⟩:=ap;have⟨db,b,g⟩:=f8 j;have P:=f8 cR;refine iH.jC λx rd ak w a=>?_
 have ab:=a.op s _ hD d;simp only[fM,fA,ea]at ab;have⟨aC,au⟩:=sN p;have⟨aL,aT⟩:=sN k;have af:=T5 (u:=u) (ak:=ak) a (d:=C) (hi:=hi) (λo ad=>Lm) (λo ad=>QP) Z (i:=n) (aV:=n) aC aL au aT db b g dd;refine⟨_,by simp only[execOp,cK,oD,Cl,qB,run_underlying aA,ab,af,sizeOf,typeInfo,program,m,g3,hM,mZ,gn,aU];rfl,?_⟩
 refine⟨_,_,rfl,I,wI,?_⟩;by_cases N:l.toNat-t.toNat=0
 .exact .inl N
 .right;rw[dA I];simp only[iS,uq,lH]
def Mx(u:dw)(q:cP)(y:dy):X (Nat×Nat×Nat×Int):=match y.op with
 |.indexAddr d a o=>match dZ q a,dZ q o,u.underlying d with
  |some (.c (.box i aq)),B (.c (.cY (.int _ j))),B (.array n e)=>match u.info? e with
   |some b=>if b.size=1 then B (i,aq,n,j)else M
   |none=>M
  |_,_,_=>M
 |_=>M
theorem aaD{i aq n:Nat}{j:Int}(h:Mx u q y=B (i,aq,n,j))(b:decide (0<=j/\j<(n:Int))=T):jP u y q (.c (.box i (aq+j.toNat))):=by unfold Mx at h;split at h;rotate_left;cases h;rename_i t x z cK;split at h;rotate_left;cases h;rename_i g s o l p aG d ad aA;split at h;rotate_left;cases h;rename_i m k;split at h;rotate_left;cases h;rename_i aU;cases h;have⟨db,a⟩:=f8 b;exact iH.jC<|adV (q:=q) n 1 j j.toNat cK d ad aA cU db a dd rfl
def RA{g:g0}{n:Nat}{s:E Int}{j:Nat}(h:j<n):(ek g n s)[j]?=B (.cY (.int g (s.getD j 0))):=by simp[ek,gy,tt h]
def MP(u:dw)(g:g0)(aq n:Nat)(q:cP)(y:dy):X (Nat×E V):=match y.op with
 |.load a z=>match dZ q z,u.underlying a with
  |some (.c (.box i k)),B (.int j)=>match q.lj i,u.info? a with
   |some b,B d=>if j=g/\d.size=1/\gc u a=Z then B (k,(b.drop aq).take n)else M
   |_,_=>M
  |_,_=>M
 |_=>M
def aaF{g:g0}{aq n:Nat}{j:Int}{s:E Int}(o:decide (0<=j/\j<(n:Int))=T)(h:MP u g aq n q y=B (aq+j.toNat,ek g n s)):jP u y q (int g (s.getD j.toNat 0)):=by
 unfold MP at h;split at h;rotate_left;cases h;rename_i C A cK;split at h;rotate_left;cases h;rename_i i z b Y aA;split at h;rotate_left;cases h;rename_i a x cN kq;split at h;rotate_left;cases h;rename_i ap;obtain⟨rfl,aU,m⟩:=ap;injection h with h
 injection h with G l
 subst G;have⟨db,t⟩:=f8 o;have k:j.toNat<n:=I;have d:a[aq+j.toNat]?=B (.cY<|.int b<|s.getD j.toNat 0):=by have:=RA (g:=b) (n:=n) (s:=s) k;rwa[<-l,jd,dE k,j2]at this
 have p:a.drop (aq+j.toNat)=.cY (.int b<|s.getD j.toNat 0)::a.drop (aq+j.toNat+1):=by have aX:=(ie.1 d).1;rw[VR aX];congr 1;exact(ie.1 d).2
 refine iH.jC<|adW (b:=a.drop<|aq+j.toNat) cK Y (by simp[qp,cN]) ?_;simp only[nw,aA,kq,m,p];rfl
def qw(n:Nat)(s:E Int)(j:Nat)(v:Int):E Int:=(jG n).map λm=>if m=j then v else s.getD m 0
def arR{g:g0}{n:Nat}{s:E Int}{j:Nat}{v:Int}:ek g n (qw n s j v)=(ek g n s).set j (.cY (.int g v)):=by
 apply tp;intro m;by_cases aw:m<n
 .rw[RA aw,sa];by_cases a:j=m
  .subst a;rw[dE rfl,dE (by simpa[ek]using aw)];simp[qw,me,gy,tt aw]
  .rw[dA a,RA aw];simp[qw,me,gy,tt aw,l5 a]
 .rw[pv (by simp[ek];omega),pv (by simp[ek];omega)]
def xn(u:dw)(g:g0)(aq n:Nat)(q:cP)(y:dy):X (Nat×Nat×E V×E V×E V×Int):=match y.op with
 |.store l z a=>match dZ q z,dZ q a,u.info? l,y.dst with
  |some (.c (.box i k)),B (.c (.cY (.int j v))),B d,M=>match q.lj i with
   |some b=>if j=g/\d.size=1 then B (i,k,b.take aq,(b.drop aq).take n,b.drop<|aq+n,v)else M
   |none=>M
  |_,_,_,_=>M
 |_=>M
theorem XP{K:fb}{A:Nat}{ops:Array dy}{g:g0}{i aq n:Nat}{j v:Int}{s:E Int}{pre post:E V}(P:decide (0<=j/\j<(n:Int))=T)(ad:decide (F pre=aq)=T)(h:xn u g aq n q y=B (i,aq+j.toNat,pre,ek g n s,post,v))(S:hF ops y q=B T):
  km u K A ops y q ((q.f3 i<|.box<|pre++ek g n (qw n s j.toNat v)++post).put y.dst<|.eu []):=by
 unfold xn at h;split at h;rotate_left;cases h;rename_i ai ah aj cK;split at h;rotate_left;cases h;rename_i o ag a b af Y d kq m;split at h;rotate_left;cases h;rename_i k cN;split at h;rotate_left;cases h;rename_i ap;obtain⟨rfl,aU⟩:=ap;injection h with h
 simp only[mh]at h;obtain⟨rfl,rfl,p,t,x,rfl⟩:=h;have⟨db,ae⟩:=f8 P;have aa:j.toNat<n:=I;have ab:=f8 ad;have N:F (ek a n s)=n:=by simp[ek]
 have Q:k=pre++ek a n s++post:=by rw[<-p,<-t,<-x];rw[iu,<-ri,tn,tn]
 have bu:lC k (aq+j.toNat) [.cY (.int a b)]=pre++ek a n (qw n s j.toNat b)++post:=by
  rw[arR,Q];unfold lC;simp only[lG];apply tp;intro C;have aG:=Ns (b:=pre++ek a n s++post) (a:=[.cY<|.int a b]) (aq:=aq+j.toNat) ef C;unfold lC at aG;simp only[lG]at aG;rw[aG];simp only[p7,g9,sb,N,ab,sa];by_cases G:C<aq
  .simp[G,(dd:C<aq+n)];omega
  .by_cases l:C<aq+n
   .by_cases z:C=aq+j.toNat
    .subst z;simp[aa,G]
    .have:¬(aq+j.toNat<=C/\C<aq+j.toNat+1):=by omega
     have D:¬(j.toNat=C-aq):=I;simp[G,l,this,D]
   .have:¬(aq+j.toNat<=C/\C<aq+j.toNat+1):=by omega
    simp[l,this]
 have:=QU (u:=u) (K:=K) (n:=A) (ops:=ops) (q:=q) o (aq+j.toNat) k [.cY (.int a b)] cK m S Y d rfl cN cU rfl ef;rw[bu]at this;rwa[m]
variable{ops:Array dy}{ao:cP}
def hs.mU{q ao:cP}(h:hs q ao){sz:Nat}{v:cT}{C:E (E V)×cQ}(g:mU q sz v=B C):Go.Proofs.YtddmdeaegbfhaaaGreat.mU ao sz v=B C:=by
 unfold Go.Proofs.YtddmdeaegbfhaaaGreat.mU at g⊢;split at g<;>(try exact g);all_goals(
  split at g
  .rename_i cN;first
    |rw[h.h _ _ cN]
    |rw[h.lj cN]
   exact g
  .cases g)
def hs.ZE{q ao:cP}(h:hs q ao){sz:Nat}{a:hp}{C:E (E V)×cQ}(g:(Go.Proofs.YtddmdeaegbfhaaaGreat.dZ q a).bind (Go.Proofs.YtddmdeaegbfhaaaGreat.mU q sz)=B C):(Go.Proofs.YtddmdeaegbfhaaaGreat.dZ ao a).bind (Go.Proofs.YtddmdeaegbfhaaaGreat.mU ao sz)=B C:=by have⟨v,G,b⟩:=jc.1 g;rw[h.dZ G];exact h.mU b
def hs.ajc{q ao:cP}(h:hs q ao){C:Nat×Nat×Nat×Nat×Nat×Nat×E (E V)×E (E V)×cQ}(g:rH u q y=B C):rH u ao y=B C:=by
 unfold rH at g⊢;split at g;rotate_left;cases g;split at g;rotate_left;cases g;rename_i a o z A k j;try rw[k,j]
 try simp only
 split at g;rotate_left;cases g;rename_i e aA;try rw[aA]
 try simp only
 split at g;rotate_left;cases g;rename_i s b;try rw[b]
 try simp only
 split at g;rotate_left;cases g;rename_i sz i Q t l c d ad;rw[h.dZ d,h.ZE ad];try simp only
 split at g;rotate_left;cases g;rename_i p x m cN;rwa[h.h _ _ cN]
def hs.pre{q ao:cP}(h:hs q ao){v:cT}{C:Nat×Nat×Nat×Nat×E (E V)×Nat}(g:rX q v=B C):rX ao v=B C:=by
 unfold rX at g⊢;split at g
 .split at g
  next cN=>simp only[h.h _ _ cN];exact g
  .cases g
 .split at g
  next cN=>simp only[h.h _ _ cN];exact g
  .cases g
 .cases g
def hs.aj0{q ao:cP}(h:hs q ao){a:hp}{C:Nat×Nat×Nat×Nat×E (E V)×Nat}(g:(Go.Proofs.YtddmdeaegbfhaaaGreat.dZ q a).bind (rX q)=B C):(Go.Proofs.YtddmdeaegbfhaaaGreat.dZ ao a).bind (rX ao)=B C:=by have⟨v,G,b⟩:=jc.1 g;rw[h.dZ G];exact h.pre b
def hs.ajb{q ao:cP}(h:hs q ao){C:Nat×Nat×Nat×Nat×Nat×E (E V)×Nat×E (E V)×cQ}(g:qk u q y=B C):qk u ao y=B C:=by
 unfold qk at g⊢;split at g;rotate_left;cases g;split at g;rotate_left;cases g;rename_i a o l m j i;try rw[j,i]
 try simp only
 split at g;rotate_left;cases g;rename_i e aA;try rw[aA]
 try simp only
 split at g;rotate_left;cases g;rename_i k b;try rw[b]
 try simp only
 split at g;rotate_left;cases g;rename_i d ad;rwa[h.aj0 d,h.ZE ad]
def hs.ar9{q ao:cP}(h:hs q ao){g:g0}{aq A:Nat}{C:Nat×Nat×E V×E V×E V×Int}(a:xn u g aq A q y=B C):xn u g aq A ao y=B C:=by
 unfold xn at a⊢;split at a;rotate_left;cases a;split at a;rotate_left;cases a;rename_i i m l v k Y d kq b;rw[h.dZ Y,h.dZ d,kq,b];try simp only
 split at a;rotate_left;cases a;rename_i j cN;rwa[h.lj cN]
def as3{g:g0}{i aq A:Nat}{j v:Int}{s:E Int}{pre post:E V}(a:decide (0<=j/\j<(A:Int))=T)(b:decide (F pre=aq)=T)(h:xn u g aq A ao y=B (i,aq+j.toNat,pre,ek g A s,post,v))(ar:hF ops y ao=B T):
  mo u n ops y ⟨ao,y.dst,.eu [],B (i,.box<|pre++ek g A (qw A s j.toNat v)++post),Z,M,[]⟩:=
 λd k aj _=>XP a b (aj.ar9 h)<|aj.guard ar
def as4{i:Nat}{eM r:eD}{v:cT}(Y:qh u y ao i eM r v)(ar:hF ops y ao=B T)(a:jB n y=T):mo u n ops y ⟨ao,y.dst,v,B (i,r),Z,M,[]⟩:=λb d aj _=>XQ (aj.fo Y) (aj.guard ar) a
def as0{e sz:Nat}{ae:E (E V)}(i:Nat)(Y:oZ u y ao e sz ae)(ar:hF ops y ao=B T)(d:y.dst=B i)(a:i<n)(b:i<1000000):mo u n ops y ⟨ao,B i,.c (.d_ sz (i+2) (F ae) ae),B (i,.fw e sz (F ae)),T,M,[]⟩:=λg j aj cR=>XN i (aj.dk Y) (aj.guard ar) d a b<|cR.1 rfl
def asZ{e sz:Nat}{ae:E (E V)}(i:Nat)(Y:oZ u y ao e sz ae)(ar:hF ops y ao=B T)(d:y.dst=B i)(a:i<n)(b:i<1000000):mo u n ops y ⟨ao,B i,.c (.dk i),B (i,.row e sz (F ae) ae),T,M,[]⟩:=λg j aj cR=>XM i (aj.dk Y) (aj.guard ar) d a b<|cR.1 rfl
def asS{i e sz d Q:Nat}(f:ag->E V)(m:∀a,(f a).all V.one=T){g j b:E ag}{c:cQ}(l:ej d g (c.cL j)=B b)(h:rH u ao y=B (i,e,sz,d,Q,Q,g.map f,j.map f,c))(ar:hF ops y ao=B T)(k:jB n y=T):
  mo u n ops y ⟨ao,y.dst,.c<|.d_ sz (i+2) (F b)<|b.map f,B (i,.fw e sz<|F b),Z,M,[]⟩:=
 λo p aj _=>XE f m l (aj.ajc h) (aj.guard ar) k
def asR{i e sz d Q A:Nat}(f:ag->E V)(m:∀a,(f a).all V.one=T){g j b:E ag}{c:cQ}(l:ej d (g.take A) (c.cL j)=B b)(h:qk u ao y=B (i,e,sz,d,Q,g.map f,A,j.map f,c))(ar:hF ops y ao=B T)(k:jB n y=T):
  mo u n ops y ⟨ao,y.dst,.c<|.dk i,B (i,.row e sz (F b)<|b.map f),Z,B ⟨[i],[],[],[],[]⟩,[]⟩:=
 λo p aj _=>XD f m l (aj.ajb h) (aj.guard ar) k
variable{ah:fE->cP->Prop}{N:dT}{P:fX}
def LB{i:Nat}{eM r:eD}{v:cT}(Y:∀a y,N.op=B (a,y)->qh u y N.d1 i eM r v)(ar:N.ft n=T)(g:TS u K n (N.next ((N.d1.f3 i r).put N.dst v)) ah):TS u K n N ah:=by have⟨a,y,cK,G,b,d⟩:=ph ar;rw[d]at g;exact o8 cK (XQ (Y a y cK) G b) g
def yG{i:Nat}{eM r:eD}{v:cT}(Y:∀a y,P.op=B (a,y)->qh u y P.need i eM r v)(ar:P.ft n=T)(g:TD u K n (P.push ⟨P.need,P.dst,v,B (i,r),Z,M,[]⟩) ah):TD u K n P ah:=by have⟨a,y,cK,G,b,d⟩:=rN ar;rw[d]at g;exact q8 cK (as4 (Y a y cK) G b) rfl g
def Q_{g:g0}{i:Nat}(aq A:Nat){j v:Int}(s:E Int){pre post:E V}(d:decide (0<=j/\j<(A:Int))=T)(k:decide (F pre=aq)=T)(h:N.fQ (xn u g aq A)=B (i,aq+j.toNat,pre,ek g A s,post,v))(ar:N.ft n=T)
  (a:TS u K n (N.next<|(N.d1.f3 i<|.box<|pre++ek g A (qw A s j.toNat v)++post).put N.dst<|.eu []) ah):TS u K n N ah:=by
 have⟨m,y,cK,G,l,b⟩:=ph ar;rw[b]at a;exact o8 cK (XP d k (jb h cK) G) a
def X1{g:g0}{i:Nat}(aq A:Nat){j v:Int}(s:E Int){pre post:E V}(d:decide (0<=j/\j<(A:Int))=T)(k:decide (F pre=aq)=T)(h:P.fQ (xn u g aq A)=B (i,aq+j.toNat,pre,ek g A s,post,v))(ar:P.ft n=T)
  (a:TD u K n (P.push ⟨P.need,P.dst,.eu [],B (i,.box<|pre++ek g A (qw A s j.toNat v)++post),Z,M,[]⟩) ah):TD u K n P ah:=by
 have⟨m,y,cK,G,l,b⟩:=rN ar;rw[b]at a;exact q8 cK (as3 d k (jW h cK) G) rfl a
def aid{i e sz d Q A:Nat}(f:ag->E V)(p:∀a,(f a).all V.one=T){j k b:E ag}{c:cQ}(o:ej d (j.take A) (c.cL k)=B b)(h:N.fQ (qk u)=B (i,e,sz,d,Q,j.map f,A,k.map f,c))(ar:N.ft n=T)
  (g:TS u K n (N.next<|((N.d1.iJ<|V.hv i).f3 i<|.row e sz (F b)<|b.map f).put N.dst<|.c<|.dk i) ah):TS u K n N ah:=by
 have⟨q,y,cK,G,l,m⟩:=ph ar;rw[m]at g;exact o8 cK (XD f p o (jb h cK) G l) g
def Lr{i e sz d Q A:Nat}(f:ag->E V)(p:∀a,(f a).all V.one=T){j k b:E ag}{c:cQ}(o:ej d (j.take A) (c.cL k)=B b)(h:P.fQ (qk u)=B (i,e,sz,d,Q,j.map f,A,k.map f,c))(ar:P.ft n=T)
  (g:TD u K n (P.push ⟨P.need,P.dst,.c<|.dk i,B (i,.row e sz (F b)<|b.map f),Z,B ⟨[i],[],[],[],[]⟩,[]⟩) ah):TD u K n P ah:=by
 have⟨q,y,cK,G,l,m⟩:=rN ar;rw[m]at g;exact q8 cK (asR f p o (jW h cK) G l) rfl g
def fX.k2(n i:Nat)(P:fX):Bool:=P.ft n&&(match P.dst with|some a=>a==i|none=>Z)&&decide (i<1000000)
def GJ{i:Nat}(h:P.k2 n i=T):∃b y,P.op=B (b,y)/\hF b y P.need=B T/\y.dst=B i/\i<n/\i<1000000:=by
 simp only[fX.k2,fz,i6]at h;have⟨⟨G,a⟩,g⟩:=h;have⟨b,y,cK,j,k,l⟩:=rN G;rw[l]at a;have d:y.dst=B i:=by
  cases ap:y.dst with
  |none=>rw[ap]at a;cases a
  |some m=>rw[ap]at a;simp at a;rw[a]
 exact⟨b,y,cK,j,d,nG k i d,g⟩
theorem XY{e sz:Nat}{ae:E (E V)}(i:Nat)(Y:∀a y,P.op=B (a,y)->oZ u y P.need e sz ae)(ar:P.k2 n i=T)(g:TD u K n (P.push ⟨P.need,B i,.c (.d_ sz (i+2) (F ae) ae),B (i,.fw e sz (F ae)),T,M,[]⟩) ah):TD u K n P ah:=by have⟨a,y,cK,G,b,d,j⟩:=GJ ar;exact q8 cK (as0 i cU G b d j) rfl g
theorem XX{e sz:Nat}{ae:E (E V)}(i:Nat)(Y:∀a y,P.op=B (a,y)->oZ u y P.need e sz ae)(ar:P.k2 n i=T)(g:TD u K n (P.push ⟨P.need,B i,.c (.dk i),B (i,.row e sz (F ae) ae),T,M,[]⟩) ah):TD u K n P ah:=by have⟨a,y,cK,G,b,d,j⟩:=GJ ar;exact q8 cK (asZ i cU G b d j) rfl g
def XT{i e sz d Q:Nat}(f:ag->E V)(p:∀a,(f a).all V.one=T){j k b:E ag}{c:cQ}(o:ej d j (c.cL k)=B b)(h:P.fQ (rH u)=B (i,e,sz,d,Q,Q,j.map f,k.map f,c))(ar:P.ft n=T)
  (g:TD u K n (P.push ⟨P.need,P.dst,.c<|.d_ sz (i+2) (F b)<|b.map f,B (i,.fw e sz<|F b),Z,M,[]⟩) ah):TD u K n P ah:=by
 have⟨q,y,cK,G,l,m⟩:=rN ar;rw[m]at g;exact q8 cK (asS f p o (jW h cK) G l) rfl g
def kz(i sz t:Nat)(f:ag->E V)(c:cQ){s:E ag}{j:Int}{a:ag}(d:di (c.cL s) j=B a)(h:N.fQ (My u)=B (i,sz,s.map f,c,t,j))(ar:N.ft n=T)(b:TS u K n (N.ret (.c (.hn i sz (t+j.toNat) 0))) ah):TS u K n N ah:=l8 _ ar (λk g cK=>aaE d<|jb h cK) b
def ky(i sz t:Nat)(f:ag->E V)(c:cQ){s:E ag}{j:Int}{a:ag}(d:di (c.cL s) j=B a)(h:P.fQ (My u)=B (i,sz,s.map f,c,t,j))(ar:P.ft n=T)(b:TD u K n (P.ret (.c (.hn i sz (t+j.toNat) 0))) ah):TD u K n P ah:=nl _ ar (λk g cK=>aaE d<|jW h cK) b
def sH(b:f1)(j aq:Nat)(f:ag->E V){s:E ag}{a:ag}{v:cT}(d:s[j]?=B a)(ab:nw u b ((f a).drop aq)=B v)(h:N.fQ (MQ u)=B (b,s.map f,j,aq))(ar:N.ft n=T)(g:TS u K n (N.ret (v)) ah):TS u K n N ah:=l8 _ ar (λk i cK=>aaG d (jb h cK) ab) g
def mn(b:f1)(j aq:Nat)(f:ag->E V){s:E ag}{a:ag}{v:cT}(d:s[j]?=B a)(ab:nw u b ((f a).drop aq)=B v)(h:P.fQ (MQ u)=B (b,s.map f,j,aq))(ar:P.ft n=T)(g:TD u K n (P.ret (v)) ah):TD u K n P ah:=nl _ ar (λk i cK=>aaG d (jW h cK) ab) g
def Fl(i sz Q:Nat){t l:Int}(b:decide (0<=t/\t<=l/\l<=(Q:Int))=T)(a:t=0)(h:N.fQ (xk u)=B (i,sz,Q,t,l))(ar:N.ft n=T)(d:TS u K n (N.ret (.c (.row i l.toNat))) ah):TS u K n N ah:=l8 _ ar (λj g cK=>aaK (jb h cK) b a) d
def AX(i sz Q:Nat){t l:Int}(b:decide (0<=t/\t<=l/\l<=(Q:Int))=T)(a:t=0)(h:P.fQ (xk u)=B (i,sz,Q,t,l))(ar:P.ft n=T)(d:TD u K n (P.ret (.c (.row i l.toNat))) ah):TD u K n P ah:=nl _ ar (λj g cK=>aaK (jW h cK) b a) d
def A0(i sz Q:Nat){t l:Int}(a:decide (0<=t/\t<=l/\l<=(Q:Int))=T)(h:N.fQ (xk u)=B (i,sz,Q,t,l))(ar:N.ft n=T)(b:TS u K n (N.ret (.c (.sub i sz t.toNat (l.toNat-t.toNat)))) ah):TS u K n N ah:=l8 _ ar (λg d cK=>aaL (jb h cK) a) b
def Lu(i sz Q:Nat){t l:Int}(a:decide (0<=t/\t<=l/\l<=(Q:Int))=T)(h:P.fQ (xk u)=B (i,sz,Q,t,l))(ar:P.ft n=T)(b:TD u K n (P.ret (.c (.sub i sz t.toNat (l.toNat-t.toNat)))) ah):TD u K n P ah:=nl _ ar (λg d cK=>aaL (jW h cK) a) b
def aih(f:gk)(g i:E Int)(a b:cQ)(d:ON u f Cm)(h:N.fQ (RU)=B (f,g.map (c4 cH),a,i.map (c4 cH),b))(ar:N.ft n=T)(j:TS u K n (N.ret (int W (FU (a.cL g) (b.cL i)))) ah):TS u K n N ah:=l8 _ ar (λl k cK=>alg d<|jb h cK) j
def LC(i aq A:Nat){t l:Int}(a:decide (0<=t/\t<=l/\l<=(A:Int))=T)(cR:decide (A<=140737488355328)=T)(h:N.fQ (N6 u)=B (i,aq,A,t,l))(ar:N.ft n=T)(b:TS u K n (N.ret (.c (.ip i (aq+t.toNat) (l.toNat-t.toNat)))) ah):TS u K n N ah:=l8 _ ar (λg d cK=>aaN (jb h cK) a cR) b
def tO(i aq A:Nat){t l:Int}(a:decide (0<=t/\t<=l/\l<=(A:Int))=T)(cR:decide (A<=140737488355328)=T)(h:P.fQ (N6 u)=B (i,aq,A,t,l))(ar:P.ft n=T)(b:TD u K n (P.ret (.c (.ip i (aq+t.toNat) (l.toNat-t.toNat)))) ah):TD u K n P ah:=nl _ ar (λg d cK=>aaN (jW h cK) a cR) b
def yI(i aq A:Nat){j:Int}(a:decide (0<=j/\j<(A:Int))=T)(h:N.fQ (Mx u)=B (i,aq,A,j))(ar:N.ft n=T)(b:TS u K n (N.ret (.c (.box i (aq+j.toNat)))) ah):TS u K n N ah:=l8 _ ar (λg d cK=>aaD (jb h cK) a) b
def Fd(i aq A:Nat){j:Int}(a:decide (0<=j/\j<(A:Int))=T)(h:P.fQ (Mx u)=B (i,aq,A,j))(ar:P.ft n=T)(b:TD u K n (P.ret (.c (.box i (aq+j.toNat)))) ah):TD u K n P ah:=nl _ ar (λg d cK=>aaD (jW h cK) a) b
def Lw(g:g0)(aq A:Nat){j:Int}(s:E Int)(a:decide (0<=j/\j<(A:Int))=T)(h:N.fQ (MP u g aq A)=B (aq+j.toNat,ek g A s))(ar:N.ft n=T)(b:TS u K n (N.ret (int g (s.getD j.toNat 0))) ah):TS u K n N ah:=l8 _ ar (λi d cK=>aaF a<|jb h cK) b
def QX(g:g0)(aq A:Nat){j:Int}(s:E Int)(a:decide (0<=j/\j<(A:Int))=T)(h:P.fQ (MP u g aq A)=B (aq+j.toNat,ek g A s))(ar:P.ft n=T)(b:TD u K n (P.ret (int g (s.getD j.toNat 0))) ah):TD u K n P ah:=nl _ ar (λi d cK=>aaF a<|jW h cK) b
def nE(i e sz Q j aq:Nat)(f:ag->E V){s:E ag}{a:ag}(g:ag){b:E V}(d:s[j]?=B a)(k:lC (f a) aq b=f g)(aP:(decide (aq+F b<=F (f a))&&b.all V.one)=T)(h:N.fQ (Hn u)=B (i,e,sz,Q,s.map f,j,aq,b))(ar:N.ft n=T)(l:TS u K n (N.next ((N.d1.f3 i (.row e sz (F (s.set j g)) ((s.set j g).map f))).put N.dst (.eu []))) ah):TS u K n N ah:=LB (λo m cK=>afg d (jb h cK) k aP) ar l
def rC(i e sz Q j aq:Nat)(f:ag->E V){s:E ag}{a:ag}(g:ag){b:E V}(d:s[j]?=B a)(k:lC (f a) aq b=f g)(aP:(decide (aq+F b<=F (f a))&&b.all V.one)=T)(h:P.fQ (Hn u)=B (i,e,sz,Q,s.map f,j,aq,b))(ar:P.ft n=T)(l:TD u K n (P.push ⟨P.need,P.dst,.eu [],B (i,.row e sz (F (s.set j g)) ((s.set j g).map f)),Z,M,[]⟩) ah):TD u K n P ah:=yG (λo m cK=>afg d (jW h cK) k aP) ar l
def yH(i e sz Q t:Nat)(f:ag->E V)(g:∀a,(f a).all V.one=T){s d:E ag}(c b:cQ)(h:N.fQ (Mb u)=B (i,e,sz,Q,s.map f,c,t,d.map f,b))(ar:N.ft n=T)(j:TS u K n (N.next ((N.d1.f3 i (.row e sz (F (k5 s t (F (c.cL s)) (b.cL d))) ((k5 s t (F (c.cL s)) (b.cL d)).map f))).put N.dst (int W (min (F (b.cL d)) (F (c.cL s)):Nat)))) ah):TS u K n N ah:=LB (λl k cK=>afd g<|jb h cK) ar j
def ahX(i e sz Q t:Nat)(f:ag->E V)(g:∀a,(f a).all V.one=T){s d:E ag}(c b:cQ)(h:P.fQ (Mb u)=B (i,e,sz,Q,s.map f,c,t,d.map f,b))(ar:P.ft n=T)(j:TD u K n (P.push ⟨P.need,P.dst,int W (min (F (b.cL d)) (F (c.cL s)):Nat),B (i,.row e sz (F (k5 s t (F (c.cL s)) (b.cL d))) ((k5 s t (F (c.cL s)) (b.cL d)).map f)),Z,M,[]⟩) ah):TD u K n P ah:=yG (λl k cK=>afd g<|jW h cK) ar j
def Fg(i:Nat)(e sz:Nat){d:Nat}(f:ag->E V)(k:∀a,(f a).all V.one=T){g b:E ag}(c:cQ)(j:ej d ([]:E ag) (c.cL g)=B b)(h:N.fQ (LW u)=B (e,sz,d,g.map f,c))(ar:N.k2 n i=T)(l:TS u K n (N.next ((N.d1.f3 i (.fw e sz (F b))).put (B i) (.c (.d_ sz (i+2) (F b) (b.map f))))) ah):TS u K n N ah:=by refine LA (e:=e) (sz:=sz) (ae:=b.map f) i (λm y cK=>adB f k j<|jb h cK) ar ?_;rwa[fT]
def X2(i:Nat)(e sz:Nat){d:Nat}(f:ag->E V)(k:∀a,(f a).all V.one=T){g b:E ag}(c:cQ)(j:ej d ([]:E ag) (c.cL g)=B b)(h:N.fQ (LW u)=B (e,sz,d,g.map f,c))(ar:N.k2 n i=T)(l:TS u K n (N.next ((N.d1.f3 i (.row e sz (F b) (b.map f))).put (B i) (.c (.dk i)))) ah):TS u K n N ah:=by refine Q7 (e:=e) (sz:=sz) (ae:=b.map f) i (λm y cK=>adB f k j<|jb h cK) ar ?_;rwa[fT]
def aiq(i:Nat)(e sz:Nat)(f:ag->E V)(a:E Nat)(s:E ag)(h:N.fQ (vI u a)=B (e,sz,s.map f))(ar:N.k2 n i=T)(b:TS u K n (N.next ((N.d1.f3 i (.fw e sz (F s))).put (B i) (.c (.d_ sz (i+2) (F s) (s.map f))))) ah):TS u K n N ah:=by refine LA (e:=e) (sz:=sz) (ae:=s.map f) i (λd y cK=>Nt<|jb h cK) ar ?_;rwa[fT]
def o5(i:Nat)(e sz:Nat)(f:ag->E V)(a:E Nat)(s:E ag)(h:P.fQ (vI u a)=B (e,sz,s.map f))(ar:P.k2 n i=T)(b:TD u K n (P.push ⟨P.need,B i,.c (.d_ sz (i+2) (F s) (s.map f)),B (i,.fw e sz (F s)),T,M,[]⟩) ah):TD u K n P ah:=by refine XY (e:=e) (sz:=sz) (ae:=s.map f) i (λd y cK=>Nt<|jW h cK) ar ?_;rwa[fT]
def Lx(i:Nat)(e sz:Nat)(f:ag->E V)(a:E Nat)(s:E ag)(h:N.fQ (vI u a)=B (e,sz,s.map f))(ar:N.k2 n i=T)(b:TS u K n (N.next ((N.d1.f3 i (.row e sz (F s) (s.map f))).put (B i) (.c (.dk i)))) ah):TS u K n N ah:=by refine Q7 (e:=e) (sz:=sz) (ae:=s.map f) i (λd y cK=>Nt<|jb h cK) ar ?_;rwa[fT]
def ah6(i:Nat)(e sz:Nat)(f:ag->E V)(a:E Nat)(s:E ag)(h:P.fQ (vI u a)=B (e,sz,s.map f))(ar:P.k2 n i=T)(b:TD u K n (P.push ⟨P.need,B i,.c (.dk i),B (i,.row e sz (F s) (s.map f)),T,M,[]⟩) ah):TD u K n P ah:=by refine XX (e:=e) (sz:=sz) (ae:=s.map f) i (λd y cK=>Nt<|jW h cK) ar ?_;rwa[fT]
def sI(i:Nat)(e sz:Nat){b:Nat}(f:ag->E V)(a:ag)(g:E Nat){d:E V}{s c:Int}{A:Nat}(j:h4 b s c=B A)(k:kp g d=f a)(h:N.fQ (vK u)=B (e,sz,b,d,s,c))(ar:N.k2 n i=T)(l:TS u K n (N.next ((N.d1.f3 i (.fw e sz (F (fe A a)))).put (B i) (.c (.d_ sz (i+2) (F (fe A a)) ((fe A a).map f))))) ah):TS u K n N ah:=by refine LA (e:=e) (sz:=sz) (ae:=(fe A a).map f) i (λm y cK=>Nu f a g j (jb h cK) k) ar ?_;rwa[fT]
def XW(i:Nat)(e sz:Nat){b:Nat}(f:ag->E V)(a:ag)(g:E Nat){d:E V}{s c:Int}{A:Nat}(j:h4 b s c=B A)(k:kp g d=f a)(h:P.fQ (vK u)=B (e,sz,b,d,s,c))(ar:P.k2 n i=T)(l:TD u K n (P.push ⟨P.need,B i,.c (.d_ sz (i+2) (F (fe A a)) ((fe A a).map f)),B (i,.fw e sz (F (fe A a))),T,M,[]⟩) ah):TD u K n P ah:=by refine XY (e:=e) (sz:=sz) (ae:=(fe A a).map f) i (λm y cK=>Nu f a g j (jW h cK) k) ar ?_;rwa[fT]
def qI(i:Nat)(e sz:Nat){b:Nat}(f:ag->E V)(a:ag)(g:E Nat){d:E V}{s c:Int}{A:Nat}(j:h4 b s c=B A)(k:kp g d=f a)(h:N.fQ (vK u)=B (e,sz,b,d,s,c))(ar:N.k2 n i=T)(l:TS u K n (N.next ((N.d1.f3 i (.row e sz (F (fe A a)) ((fe A a).map f))).put (B i) (.c (.dk i)))) ah):TS u K n N ah:=by refine Q7 (e:=e) (sz:=sz) (ae:=(fe A a).map f) i (λm y cK=>Nu f a g j (jb h cK) k) ar ?_;rwa[fT]
def XV(i:Nat)(e sz:Nat){b:Nat}(f:ag->E V)(a:ag)(g:E Nat){d:E V}{s c:Int}{A:Nat}(j:h4 b s c=B A)(k:kp g d=f a)(h:P.fQ (vK u)=B (e,sz,b,d,s,c))(ar:P.k2 n i=T)(l:TD u K n (P.push ⟨P.need,B i,.c (.dk i),B (i,.row e sz (F (fe A a)) ((fe A a).map f)),T,M,[]⟩) ah):TD u K n P ah:=by refine XX (e:=e) (sz:=sz) (ae:=(fe A a).map f) i (λm y cK=>Nu f a g j (jW h cK) k) ar ?_;rwa[fT]
def dT.FG(N:dT)(a:E (E Nat)):X (gk×E cT):=match N.op with
 |some (_,y)=>match lh N.d1 y with
  |some (f,b)=>(Bt N.d1 a b).map λak=>(f,ak)
  |none=>M
 |none=>M
def fX.FG(P:fX)(a:E (E Nat)):X (gk×E cT):=match P.op with
 |some (_,y)=>match lh P.need y with
  |some (f,b)=>(Bt P.need a b).map λak=>(f,ak)
  |none=>M
 |none=>M
def wM{f:gk}{ak:E cT}{r:cT}(b:E (E Nat))(Y:ih u f ak [] r [])(a:N.FG b=B (f,ak))(ar:(N.ft n&&iz u f&&r.eY V.jh)=T)(g:TS u K n (N.ret r) ah):TS u K n N ah:=by
 simp only[fz]at ar;refine l8 r ar.1.1 (λl y cK=>?_) g;unfold dT.FG at a;rw[cK]at a;simp only at a;split at a
 next k m G=>have⟨j,d,i⟩:=gG.1 a;cases i;exact aaB b G ar.1.2 d ar.2 Y
 .cases a
def Ls{f:gk}{ak:E cT}{r:cT}(b:E (E Nat))(Y:ih u f ak [] r [])(a:P.FG b=B (f,ak))(ar:(P.ft n&&iz u f&&r.eY V.jh)=T)(g:TD u K n (P.ret r) ah):TD u K n P ah:=by
 simp only[fz]at ar;refine nl r ar.1.1 (λl y cK=>?_) g;unfold fX.FG at a;rw[cK]at a;simp only at a;split at a
 next k m G=>have⟨j,d,i⟩:=gG.1 a;cases i;exact aaB b G ar.1.2 d ar.2 Y
 .cases a
variable{j:fb}{A:Nat}{a:dT}{i S:Type}
theorem aai(h:a.t2=T):∃q,a=.mk [] .normal q\/a=.mk [] .ret q:=by
 unfold dT.t2 at h;split at h
 .exact cU
 .exact cU
 .cases h
def ain{d:E qy}{r:cT}(i:a.t2=T)(h:(ll u a.d1 [] d).bind ma=B r)(g:TS u K n (N.next (cP.put ⟨n4 a.d1.tmps,a.d1.Y⟩ N.dst r)) ah):TS u j A a (By u K n N d ah):=by
 have⟨ae,G,b⟩:=jc.1 h;obtain⟨q,rfl|rfl⟩:=aai i
 .exact⟨ae,r,G,b,g⟩
 .exact⟨ae,r,G,b,g⟩
def ME(u:dw)(K:fb)(n:Nat)(N:dT)(d:E qy)(b:i->cP)(m:i->X S)(r:S):fE->cP->Prop
 |.normal,q=>∃ae a v,ll u q [] d=B ae/\ma ae=B a/\m v=B r/\∀t w,R K n t w (cP.put ⟨n4 q.tmps,q.Y⟩ N.dst a)->R K n t w (b v)
 |.ret,q=>∃ae a v,ll u q [] d=B ae/\ma ae=B a/\m v=B r/\∀t w,R K n t w (cP.put ⟨n4 q.tmps,q.Y⟩ N.dst a)->R K n t w (b v)
 |_,_=>False
def aio{f:gk}{ak:E cT}{b:n5}{c:k7}(A:Nat)(Q:u.funcs[f]?=B b)(D:b.body=B c)(cR:b.ntmps=A)(d:i5)(k:i->E (Nat×cT))(iO:i->E (Nat×eD))(m:i->X S)(r:S)(P:N.callee []=B (f,ak))(ar:(N.ft n&&iz u f&&decide (F ak<=A/\A<=2000000))=T)
  (aw:∀v,m v=B r->TS u K n (N.next<|(kb d N.d1).kf (k v)<|iO v) ah)
  (g:∀l,TS u l A (.mk [.code c] .normal ⟨lV 0 ak++pU N.d1.tmps,N.d1.Y⟩) (ME u K n N b.results.toList (λv=>(kb d N.d1).kf (k v)<|iO v) m r)):TS u K n N ah:=by
 refine X7 A Q D cR P ar λl=>?_
 refine Yh (g l) λe q ap=>?_
 have aa:∀a,(N.next a).pre=T:=by
  intro a;simp only[fz]at ar;have⟨ab,y,cK,_⟩:=ph ar.1.1;unfold dT.op at cK;split at cK
  .cases cK;rfl
  .cases cK
 have o:∀a,(N.next a).d1=a/\∀p,(N.next a).tf p=N.next p:=by
  intro a;simp only[fz]at ar;have⟨ab,y,cK,_⟩:=ph ar.1.1;unfold dT.op at cK;split at cK
  .cases cK;exact⟨rfl,λ_=>rfl⟩
  .cases cK
 have s:(∃ae j v,ll u q [] b.results.toList=B ae/\ma ae=B j/\m v=B r/\∀t w,R K n t w (cP.put ⟨n4 q.tmps,q.Y⟩ N.dst j)->R K n t w ((kb d N.d1).kf (k v)<|iO v))->∃ae r,ll u q [] b.results.toList=B ae/\ma ae=B r/\TS u K n (N.next<|cP.put ⟨n4 q.tmps,q.Y⟩ N.dst r) ah:=by rintro⟨ae,j,v,G,x,z,C⟩;refine⟨ae,j,G,x,vg ((kb d N.d1).kf (k v)<|iO v) (λt w ay=>C t w (by rw[(o _).1]at ay;exact ay)) (aa _) ?_⟩;rw[(o _).2];exact aw v z
 cases e<;>first|exact s ap|exact ap
def aim{l:E qy}{d:i->cP}{m:i->X S}{r:S}{b:cT}(v:i)(f:i5)(aw:m v=B r)(o:a.t2=T)(h:(ll u a.d1 [] l).bind ma=B b)(k:n1 f (cP.put ⟨n4 a.d1.tmps,a.d1.Y⟩ N.dst b)=B (d v)):TS u j A a (ME u K n N l d m r):=by
 have⟨ae,G,g⟩:=jc.1 h;obtain⟨q,rfl|rfl⟩:=aai o
 .exact⟨ae,b,v,G,g,aw,λt w ay=>ay.rK f k⟩
 .exact⟨ae,b,v,G,g,aw,λt w ay=>ay.rK f k⟩
def lr(n:Nat)(s:E Int):E Int:=(jG n).map λj=>s.getD j 0
def dT.inl(N:dT)(c:k7):dT:=match N.callee []with
 |some (_,ak)=>.mk [.code c] .normal ⟨lV 0 ak++pU N.d1.tmps,N.d1.Y⟩
 |none=>.iZ
def dT.Gc(u:dw)(n A f:Nat)(N:dT):Bool:=match N.callee []with
 |some (a,ak)=>a==f&&(N.ft n&&iz u f&&decide (F ak<=A/\A<=2000000))
 |none=>Z
def aa1{f:Nat}{c:k7}(h:N.Gc u n A f=T):∃ak,N.callee []=B (f,ak)/\(N.ft n&&iz u f&&decide (F ak<=A/\A<=2000000))=T/\N.inl c=.mk [.code c] .normal ⟨lV 0 ak++pU N.d1.tmps,N.d1.Y⟩:=by
 unfold dT.Gc at h;split at h
 .rename_i b ak a;rw[fz]at h;have:b=f:=by simpa using h.1
  subst this;exact⟨ak,a,h.2,by simp only[dT.inl,a]⟩
 .cases h
theorem ail{f:gk}{a:n5}{c:k7}(A:Nat)(j:u.funcs[f]?=B a)(i:a.body=B c)(cR:a.ntmps=A)(ar:N.Gc u n A f=T)(g:∀b,TS u b A (N.inl c) (By u K n N a.results.toList ah)):TS u K n N ah:=by have⟨ak,G,d,k⟩:=aa1 (c:=c) ar;exact X7 A j i cR G d cU
theorem mI{f:gk}{a:n5}{c:k7}(A:Nat)(o:u.funcs[f]?=B a)(l:a.body=B c)(cR:a.ntmps=A)(b:i5)(d:i->E (Nat×cT))(iO:i->E (Nat×eD))(m:i->X S)(r:S)(ar:N.Gc u n A f=T)
  (aw:∀v,m v=B r->TS u K n (N.next<|(kb b N.d1).kf (d v)<|iO v) ah)
  (g:∀j,TS u j A (N.inl c) (ME u K n N a.results.toList (λv=>(kb b N.d1).kf (d v)<|iO v) m r)):TS u K n N ah:=by
 have⟨ak,G,k,p⟩:=aa1 (c:=c) ar;exact aio A o l cR b d iO m r G k aw cU
def dT.pQ(u:dw)(a:dT)(b:E qy)(dst:X Tmp):cP:=cP.put ⟨n4 a.d1.tmps,a.d1.Y⟩ dst (((ll u a.d1 [] b).bind ma).getD (.eu []))
def gN{b:E qy}(d:a.t2=T)(h:((ll u a.d1 [] b).bind ma).isSome=T)(g:TS u K n (N.next (a.pQ u b N.dst)) ah):TS u j A a (By u K n N b ah):=by have⟨r,ay⟩:=lb.1 h;refine ain d ay ?_;simp only[dT.pQ,ay,n7]at g;exact g
def hH{b:E qy}{d:i->cP}{m:i->X S}{r:S}(v:i)(f:i5)(aw:m v=B r)(k:a.t2=T)(h:((ll u a.d1 [] b).bind ma).isSome=T)(g:n1 f (a.pQ u b N.dst)=B (d v)):TS u j A a (ME u K n N b d m r):=by have⟨l,ay⟩:=lb.1 h;refine aim v f aw k ay ?_;simp only[dT.pQ,ay,n7]at g;exact g
def L3(q:cP):E hp->X (E V)
 |[]=>B []
 |a::s=>match dZ q a,L3 q s with
  |some (.c (.gf _ _)),_=>M
  |some (.c o),B r=>B<|o::r
  |_,_=>M
def ZL{q:cP}:∀(s:E hp) (r:E V),L3 q s=B r->F s=F r/\∀(j:Nat) (a:hp) (o:V),s[j]?=B a->r[j]?=B o->dZ q a=B (.c o)/\∀f g,o≠.gf f g
 |[],r,h=>by cases h;exact⟨rfl,λj a o G=>ET⟩
 |a::s,r,h=>by
  simp only[L3]at h;split at h
  .cases h
  .rename_i o k aR d ay;cases h;have⟨aI,i⟩:=ZL s k ay;refine⟨QR,λj l m G b=>?_⟩;cases j with
   |zero=>simp at G b;subst G;subst b;exact⟨d,λf g C=>by subst C;exact aR f g rfl⟩
   |succ j=>simp at G b;exact i j l m G b
  .cases h
def BG(q:cP)(y:dy):X (Nat×E V):=match y.op with
 |.makeFunc (.func f) first a=>if f<1000000 then(L3 q<|first.toList++a.toList).map λb=>(f+1000000*first.size,b)else M
 |_=>M
def alm{f:Nat}{g:E V}(h:BG q y=B (f,g)):jP u y q (.c (.gf f g)):=by
 unfold BG at h;split at h;rotate_left;cases h;rename_i b first a cK
 split at h;rotate_left;cases h;rename_i dI;have⟨t,G,i⟩:=gG.1 h;cases i;have⟨p,s⟩:=ZL _ _ G;refine iH.jC λx rd ak w l=>?_
 have k:(b+1000000*first.size)/1000000=first.size:=by rw[Nat.add_mul_div_left _ _ dd,Nat.div_eq_of_lt dI,gx]
 have d:(b+1000000*first.size)%1000000=b:=by rw[Nat.add_mul_mod_self_left,Nat.mod_eq_of_lt dI]
 refine⟨.func (.func b) (first.map ak.eval)<|a.map ak.eval,by simp[execOp,cK,Instr.makeFunc],first.map ak.eval++a.map ak.eval,?_,by simpa using p,λm o ad=>?_⟩
 .rw[k,d];have aG:(first.map ak.eval++a.map ak.eval).extract 0 first.size=first.map ak.eval:=by rw[Array.extract_append];simp
  have aD:(first.map ak.eval++a.map ak.eval).extract first.size (first.map ak.eval++a.map ak.eval).size=a.map ak.eval:=by
   refine Array.ext dh λj G i=>?_
   rw[Array.getElem_extract,Array.getElem_append_right dh];simp
  rw[aG,aD]
 have aw:m<F (first.toList++a.toList):=by have:=(ie.1 ad).1;omega
 have⟨aC,au⟩:=s m _ o (e6 aw) ad;have d:(first.toList++a.toList)[m]∈y.op.operands.toList:=by rw[cK];simp only[Op.operands,ul];exact fi aw
 have:=l.op _ _ d aC;refine⟨ak.eval (first.toList++a.toList)[m],?_,fA.aky au this⟩;rw[<-Array.map_append,Oe,<-v5,ul,e6 aw];rfl
def aac(u:dw)(q:cP)(y:dy):X (nL×E (E V)):=match y.op with
 |.binOp op b a o _=>match dZ q a,dZ q o,u.underlying b with
  |some (.c (.d_ _ _ _ ae)),B (.c (.cY (.slice M 0 0))),B (.slice _)=>B (op,ae)
  |_,_,_=>M
 |_=>M
theorem X6{ae:E (E V)}(h:N.fQ (aac u)=B (.eql,ae))(ar:N.ft n=T)(P:ae=[]->TS u K n (N.ret (.c (.cY (.bool T)))) ah)(S:TS u K n (N.ret (.c (.cY (.bool Z)))) ah):TS u K n N ah:=by
 have⟨af,y,cK,aS,aN,a2⟩:=ph ar;have G:=jb h cK;have j:∃s eU q,N=.mk (.ops af (y::s)::eU) .normal q:=by
  unfold dT.op at cK;split at cK
  .cases cK;exact cU
  .cases cK
 obtain⟨s,eU,q,rfl⟩:=j;simp only[dT.d1,dT.next,dT.ret,a2]at*;unfold aac at G;split at G;rotate_left;cases G;rename_i op g a o an z;split at G;rotate_left;cases G;rename_i sz tag Q ao e d ad aA;cases G;intro t w eM;have⟨x,r⟩:=eM;refine wpList_step λag i=>?_
 have D:=Mu (t:=t) aS (λg v ax ab=>let⟨p,G,b⟩:=r.kM.tmps g v ax ab;ef);rw[dE D];have A:=r.kM.dZ d;have C:=hw<|r.kM.dZ ad;have k:∃ak n c,t.eval a=.slice ak n c/\(ak=M->ae=[]):=by
  have⟨b,_⟩:=A;generalize t.eval a=p at b;cases b with
  |nil q t c m=>exact cU
  |d_ l y n c q ae p cR am m aj ay aA=>exact cU
 have⟨ak,aa,c,b,al⟩:=k;have a3:(execOp t.eval y).run u w=.ok (.value<|.bool ak.isNone) w:=by simp[execOp,z,b,C,eqGuard,Go.binOp,run_equal_slice_nil w g e ak aa c aA]
 unfold ln;rw[a3];simp only[ly];cases ak with
 |none=>exact i _ _ (P cU _ _ ⟨x,r.put y.dst (nG aN)<|.cY _⟩)
 |some ai=>exact i _ _ (S _ _ ⟨x,r.put y.dst (nG aN)<|.cY _⟩)
def X_{f:Nat}{a:E V}(h:N.fQ BG=B (f,a))(ar:N.ft n=T)(b:TS u K n (N.ret (.c (.gf f a))) ah):TS u K n N ah:=l8 _ ar (λg d cK=>alm (jb h cK)) b
def adQ{v:cT}{i e sz Q A:Nat}{ae:E (E V)}(h:rX q v=B (i,e,sz,Q,ae,A)):cO q.Y i=B (.row e sz Q ae):=by
 unfold rX at h;split at h
 .split at h
  next cN=>cases h;exact cN
  .cases h
 .split at h
  next cN=>cases h;exact cN
  .cases h
 .cases h
def asM{i e sz aE Q A:Nat}(f:ag->E V)(aq:∀a,(f a).all V.one=T){j l:E ag}{c:cQ}(aJ:decide (A+F (c.cL l)<=F j)=T)(h:qk u q y=B (i,e,sz,aE,Q,j.map f,A,l.map f,c)):
  qh u y q i (.row e sz Q<|j.map f) (.row e sz (F<|j.take A++c.cL l++j.drop (A+F (c.cL l)))<|(j.take A++c.cL l++j.drop (A+F (c.cL l))).map f) (.c<|.row i<|A+F (c.cL l)):=by
 unfold qk at h;split at h;rotate_left;cases h;rename_i ae aD cK;split at h;rotate_left;cases h;rename_i a o ah bh a8 aX;have a_:ae= #[a,o]:=by rw[<-lF (xs:=ae),a8]
 have aY:aD= #[ah,bh]:=by rw[<-lF (xs:=aD),aX]
 subst a_;subst aY;split at h;rotate_left;cases h;rename_i aG aA;split at h;rotate_left;cases h;rename_i g hi;split at h;rotate_left;cases h;rename_i bq br bz bk bl bx bn bo d ad;split at h;rotate_left;cases h;rename_i ap;obtain⟨rfl,N,aU,rfl,rfl⟩:=ap;cases h;have⟨bB,a6,k⟩:=jc.1 d;have⟨bC,ba,bb⟩:=jc.1 ad;have bt:=f8 aJ;have cN:=adQ k;refine⟨cN,rfl,λ_ _ _ aN=>aN,λx rd ak w af=>?_⟩;have aB:=af.op a _ ml a6;have ay:=r3 bb af<|af.op o _ ml ba;rw[cQ.map]at ay;have⟨P,aZ,S,am⟩:=af.gg i _ cN;have⟨ab,z,a0,bc,a9,a5,a7⟩:=kK aZ;have aS:F j=Q:=QQ;have ax:=aZ.1;have aT:ak.eval a=.slice ab A z/\A<=Q:=by
  unfold rX at k;split at k
  .split at k
   .cases k;have⟨aC,_⟩:=aB;exact⟨by rw[aC,a0],jq _⟩
   .cases k
  .split at k
   .cases k;have⟨bm,bj,bp,aC,au,aL⟩:=aB;rw[a0]at aC;cases aC;exact⟨au,aL⟩
   .cases k
  .cases k
 have⟨a1,bv⟩:=aT;generalize bu:c.cL l=b at*;generalize a2:ak.eval o=bA at*;obtain⟨ar,ai,aF,rfl,K,av,a4,_⟩:=ay;rw[fT]at K;simp only[execOp,cK,resolve,invoke,builtin,g3,hM,gn,p5,hx,jY,a1,a2,fT];have an:∀s:ez,fM s x (.slice ab (A+F b) z) (.c<|.row i<|A+F b):=λs=>⟨ab,Q,z,a0,rfl,I⟩
 by_cases aj:b=[]
 .subst aj;simp only[List.length_nil,jO,nb,tn]at an⊢;rw[NG ah y.type e g aA hi ab ar A z ai I];simp only[gn];exact⟨_,_,rfl,fL.refl _ _,.inr ⟨_,rfl,λs _=>an s⟩,λs al=>⟨P,by rw[aS];exact aZ,dh,am.mono al⟩⟩
 have bw:0<F b:=Ck.2 aj;obtain⟨aa,rfl,aM⟩:∃aa,ar=B aa/\∀m v,aF[m]?=B v->w.cell? (aa.add m)=B v:=by
  rcases a4 with dI|dI
  .exact absurd (tq.1 dI) aj
  .exact dI
 have aH:=u_.one aU (by rw[fT];exact K) av λa d=>Xn
 rcases a7 with dI|⟨aW,aP,D⟩
 .omega
 subst aP;have aI:A*g.size+F aF<=Q*g.size:=by rw[K,<-jZ];exact j1 _ I
 have aK:∀m,m<F aF->∃p,w.cell? ⟨aW,A*g.size+m,M⟩=B p:=by intro m aw;have:=aZ.cells D (A*g.size+m) _ (e6 I);rw[iS,gx]at this;exact⟨_,this⟩
 have az:=run_storeCells_cells (P:=u) aW (A*g.size) aF 0 w
  (λm aw=>by have⟨p,C⟩:=aK m aw;rw[jO,C];rfl)
  (λm aw=>by
    rcases aZ.2 with⟨C,_⟩|⟨bs,aV,ao,aC,_,au,_⟩
    .rw[C]at D;cases D
    .rw[aC]at D;cases D;simp[sg,au]) aH
 simp only[jO]at az;have⟨bd,bf⟩:=vS aZ D (A*g.size) aF aI;have aO:=run_firstCells_some (P:=u) w g.size (F b) aa (F b) ai aF K aM;have a3:(qz #[ah,ah] y.type #[.slice (B ⟨aW,0,M⟩) A z,.slice (B aa) (F b) ai]).run u w=.ok (.slice (B ⟨aW,0,M⟩) (A+F b) z) (w.setCells aW (A*g.size) aF):=by have t:A+F b<=z:=I;simp[qz,run_underlying aA,v3,sizeOf,typeInfo,hi,aO,iS,az,t]
 rw[a3];simp only[gn];refine⟨_,_,rfl,bf,.inr ⟨_,rfl,λs _=>an s⟩,λs al=>⟨_,(by
  have aR:F (j.take A++b++j.drop (A+F b))=Q:=by simp only[g9,hO,my];omega
  rw[aR];exact bd),dh,?_⟩⟩
 .rw[hN,hN];refine hK.mono al ?_;have aG:hK rd g.size (P.take<|A*g.size) ((j.take A).map f):=by have:=am.je 0 A;simpa[nx]using this
  have aQ:hK rd g.size (P.drop<|A*g.size+F aF) ((j.drop<|A+F b).map f):=by
   have:=am.je (A+F b)<|Q-(A+F b);have C:(P.drop<|(A+F b)*g.size).take ((Q-(A+F b))*g.size)=P.drop ((A+F b)*g.size):=k9 Ln;have bg:((j.map f).drop<|A+F b).take (Q-(A+F b))=(j.drop<|A+F b).map f:=by rw[up];exact k9 (by rw[my,S];exact jq _)
   rwa[C,bg,jZ,<-K]at this
  refine(aG.append av ?_).append aQ ?_
  .simp only[fT,hO];rw[jw E6,jw I]
  .simp only[fT,g9,hO];rw[jw E6,jw I,K,jZ]
def QV(i e sz g Q A:Nat)(f:ag->E V)(k:∀a,(f a).all V.one=T){d b:E ag}(c:cQ)(j:decide (A+F (c.cL b)<=F d)=T)(h:P.fQ (qk u)=B (i,e,sz,g,Q,d.map f,A,b.map f,c))(ar:P.ft n=T)
  (l:TD u K n (P.push ⟨P.need,P.dst,.c<|.row i<|A+F (c.cL b),B (i,.row e sz (F<|d.take A++c.cL b++d.drop (A+F (c.cL b)))<|(d.take A++c.cL b++d.drop (A+F (c.cL b))).map f),Z,M,[]⟩) ah):TD u K n P ah:=
 yG (λo m cK=>asM f k j<|jW h cK) ar l
def L4(b:E (E Nat)):cT->cT
 |.eu d=>.eu ((jG<|F d).map λj=>yT (b.getD j [])<|d.getD j (Z,[]))
 |a=>tX (b.getD 0 []) a
def aka{rd:ez}{x:dY}{v:dp}{a:cT}(k:E (E Nat))(h:fM rd x v a):fM rd x v (L4 k a):=by
 cases a with
 |c a=>exact tY _ h
 |agg o=>exact tY _ h
 |eu ae=>
  have⟨l,G,b,g⟩:=h;refine⟨l,G,rz,λm a d=>?_⟩;have aw:m<F ae:=by have:=(ie.1 d).1;simpa using this
  rw[gy,tt aw]at d;cases d;have⟨p,i,j⟩:=g m ae[m]<|e6 aw;refine⟨p,i,RL _ ?_⟩;simpa[ur,e6 aw]using j
theorem ZV{u:dw}{f:gk}{ak:E cT}{h aF j:fK}{r k:cT}(o:E (E Nat))(spec:E (Nat×E Nat))(Y:ih u f ak h r aF)(ay:L4 o r=k)(ab:s6 aF spec=B j)(N:(j.all λz=>z.2.kr)=T):ih u f ak h k j:=by
 intro rd x w P q s t A D K;refine(Y rd x w P q s t A D K).mono ?_;rintro e aE ⟨p,ai,rfl,af,ag,ad,S,aq,ah⟩;subst ay;have cN:∀i a,cO j i=B a->∃b g,cO aF i=B b/\a=qS g b:=TF spec ab;have aa:∀l y,h7 ai j l y->h7 ai aF l y:=by rintro l y ⟨i,a,aC,au⟩;obtain⟨b,g,aL,rfl⟩:=cN i a aC;rw[Bl]at au;exact⟨i,b,aL,au⟩
 refine⟨p,ai,rfl,af,?_,λl y C=>ad l y cU,?_,?_,?_⟩
 .intro i ap Q d;have⟨b,g,aL,aT⟩:=cN i _ d;cases b with
  |box c=>exact ag i c Q aL
  |row=>cases aT
  |fw=>cases aT
  |dR=>cases aT
  |g7 ak=>cases aT
 .intro i m av k l y aR aC au aL aT;obtain⟨b,g,aK,rfl⟩:=cN i _ aC;obtain⟨ao,ar,a6,rfl⟩:=cN m _ au;rw[Bl]at aL aT;exact S i m b ao l y aR aK a6 aL aT
 .intro i a aC au;have:=fp.1 N _ (iM aC);rw[this]at au;cases au
 .intro an ae aj;have⟨al,am⟩:=ah an ae λl y p aC au aL=>aj l y p aC (λC=>au<|aa l y C) aL
  refine⟨aka o al,λi a d=>?_⟩;obtain⟨b,g,aK,rfl⟩:=cN i _ d;exact RN g<|am i b aK
def gW.abK(h:gW K x n t w q)(i e sz:Nat)(b:i<1000000)(d:nh q i M):gW K (x.iP i (.slice M 0 0,undef) (0,0)) n t w (q.f3 i (.row e sz 0 [])):=
 (h.add (ai:=x.iP i (.slice M 0 0,undef) (0,0)) (aE:=w) (r:=.row e sz 0 []) b d (λe am=>yA) (Ext.refl w) (λl y a=>by simp[er,dY.iP,n6]at a) (λg=>⟨[],by simpa[dY.iP]using World.ownsRow_nil w 0 e sz,rfl,dh,dh⟩)).1
def GE(q:cP)(a i e sz:Nat):X cP:=match cO q.tmps a with
 |some (.c (.cY (.slice M 0 0)))=>if decide (i<1000000)&&q.sX i M then B ((q.f3 i<|.row e sz 0 []).put (B a)<|.c<|.dk i)else M
 |_=>M
def R.GE{ao:cP}(h:R K n t w q){a i e sz:Nat}(aj:GE q a i e sz=B ao):R K n t w ao:=by
 have⟨x,h⟩:=h;unfold Go.Proofs.YtddmdeaegbfhaaaGreat.GE at aj;split at aj
 .rename_i cN;split at aj
  next ap=>simp only[fz,i6]at ap;cases aj;have G:=h.abK i e sz ap.1<|vP ap.2;refine⟨_,G.TT (b:=a) cN λp aA=>?_⟩;rw[hw aA];exact⟨rA,.inl ⟨M,0,0,rA⟩⟩
  .cases aj
 .cases aj
def wP(b i e sz:Nat)(a:N.pre=T)(g:TS u K n (N.ra (GE N.d1 b i e sz)) ah):TS u K n N ah:=ve (λ_ _ _ aj r=>r.GE aj) a g
def M1(_:dw)(q:cP)(y:dy):X (Nat×Nat×Nat×Nat):=match y.op with
 |.nilCheck a=>match dZ q a with
  |some (.c (.hn i sz j aq))=>B (i,sz,j,aq)
  |_=>M
 |_=>M
def aaI{i sz j aq:Nat}(h:M1 u q y=B (i,sz,j,aq)):jP u y q (.c (.hn i sz j aq)):=by
 unfold M1 at h;split at h;rotate_left;cases h;rename_i a cK;split at h;rotate_left;cases h;rename_i d;cases h;refine iH.jC λx rd ak w g=>?_
 have ay:=g.op a _ hD d;have⟨l,Q,c,G,b⟩:=ay;exact⟨_,by simp[execOp,cK,b],⟨l,Q,c,G,rfl⟩⟩
def Yb(i sz j aq:Nat)(h:N.fQ (M1 u)=B (i,sz,j,aq))(ar:N.ft n=T)(a:TS u K n (N.ret (.c (.hn i sz j aq))) ah):TS u K n N ah:=l8 _ ar (λd b cK=>aaI<|jb h cK) a
def Lt(i sz j aq:Nat)(h:P.fQ (M1 u)=B (i,sz,j,aq))(ar:P.ft n=T)(a:TD u K n (P.ret (.c (.hn i sz j aq))) ah):TD u K n P ah:=nl _ ar (λd b cK=>aaI<|jW h cK) a
def aj1(f:n5):k7:=match f.body with
 |some c=>c
 |none=>.skip
def V.n3(i:Nat):V->V
 |.d_ q tag n ae=>.d_ q (if tag=1000003 then i+2 else tag) n ae
 |a=>a
def V.s0:V->Bool
 |.d_ q tag n ae=>tag==1000003||(V.d_ q tag n ae).il
 |a=>a.il
theorem abU{a:V}(h:a.s0=T):(∃q n ae,a=.d_ q 1000003 n ae)\/(a.il=T/\∀i,a.n3 i=a):=by
 cases a with
 |d_ q tag n ae=>
  by_cases ax:tag=1000003
  .subst ax;exact .inl cU
  .exact .inr ⟨by simpa[V.s0,ax]using h,λi=>by simp[V.n3,ax]⟩
 |_=>exact .inr ⟨h,λi=>rfl⟩
def sj(u:dw)(f:gk)(args:E cT)(b sz Q:Nat)(r:cT)(g:Nat):Prop:=
 ∀(rd:ez) (x:dY) (w:d2) (P:Array dp),(∀l y v,rd l y=B v->w.cell? ⟨l,y,M⟩=B v)->P.size=F args->(∀(j:Nat) (a:cT),args[j]?=B a->∃p,P[j]?=B p/\fM rd x p a)->
  iv rd x w 1000001 (.fw b sz Q)->(∀l y,er x 1000001 (.fw b sz Q) l y->rd l y=M)->
  Hy u f P w λe aE=>∃p ai,e=.returned p/\fL w (er x 1000001<|.fw b sz Q) aE/\(∀l y,er ai 1000001 (.fw b sz g) l y->er x 1000001 (.fw b sz Q) l y\/w.heap.size<=l)/\((ai.dM 1000001).2=(x.dM 1000001).2\/mc (x.dM 1000001).2<mc (ai.dM 1000001).2)/\
   ∀d,rd.gU d->yF w (er x 1000001<|.fw b sz Q) d aE (er ai 1000001<|.fw b sz g)->fM d ai p r/\iv d ai aE 1000001 (.fw b sz g)
def St{x:dY}{i:Nat}{r:eD}{l y:Nat}:h7 x [(i,r)] l y↔er x i r l y:=by
 constructor
 .rintro⟨e,a,G,b⟩;rw[io]at G;split at G
  next h=>subst h;cases G;exact b
  .simp[cO]at G
 .intro h;exact⟨i,r,ahl,h⟩
def F5(sz Q:Nat)(ae:E (E V)):E (Nat×cT):=[(2000000,.c (.d_ sz 1000003 Q ae))]
def Hc(u:dw)(g:n5)(i:E (E Nat))(d sz Q:Nat)(r:cT)(b:Nat):fE->cP->Prop
 |.normal,q=>(∃ae,ll u q i g.results.toList=B ae/\ma ae=B r)/\cO q.Y 1000001=B (.fw d sz b)/\∃a ae,cO q.tmps 2000000=B (.c<|.d_ a 1000003 Q ae)
 |.ret,q=>(∃ae,ll u q i g.results.toList=B ae/\ma ae=B r)/\cO q.Y 1000001=B (.fw d sz b)/\∃a ae,cO q.tmps 2000000=B (.c<|.d_ a 1000003 Q ae)
 |_,_=>False
def afm{rd:ez}{x:dY}{w:d2}{i e q n:Nat}(h:iv rd x w i (.fw e q n)):mc (x.dM i).2=n:=by have⟨P,G⟩:=h;have⟨_,_,_,_,_,a,_⟩:=xq G;exact a
theorem ZX{u:dw}{f:gk}{s:n5}{c:k7}{args:E cT}{b sz Q q:Nat}{aa:E (E V)}{r:cT}(ay:E (E Nat))(n:Nat)(ag:u.funcs[f]?=B s)(aG:s.body=B c)(cR:s.ntmps=n)(cN:decide (F args<=n/\n<=2000000)=T)(ap:∀rd x (P:Array dp),(∀(j:Nat) (a:cT),args[j]?=B a->∃p,P[j]?=B p/\fM rd x p a)->∃p,fM rd x p (.c (.d_ sz 1000003 Q aa)))
  (ax:∀K,TS u K n (.mk [.code c] .normal ⟨lV 0 args++F5 sz Q aa,[(1000001,.fw b sz Q)]⟩)<|Hc u s ay b sz Q r q):sj u f args b sz Q r q:=by
 intro rd x w P av a_ al an g;have⟨aS,aJ⟩:=f8 cN;have aw:=afm an
 let h:fK:=[(1000001,.fw b sz Q)]
 let K:fb:=⟨w,h7 x h,rd,x.dn,λm=>if m=0 then B (x.dM 1000001).2 else M,λl y v ab=>⟨av l y v ab,λa=>Xu⟩⟩;have S:rd.gU (fd K x h w):=by intro l y v ab;unfold fd;rw[dA (λa=>Xu),dE ⟨rk w _ (av l y v ab),λa=>Xu⟩];exact ab
 have aO:∀i a,cO h i=B a->i=1000001/\a=.fw b sz Q:=by
  intro i a d;rw[io]at d;split at d
  next am=>cases d;exact cU
  .simp[cO]at d
 have aM:fM (fd K x h w) x (x.dM 1000001).2 (.c<|.d_ sz 1000003 Q aa):=by have⟨p,au⟩:=ap rd x P al;have aL:=au.mono S;have⟨aT,aK⟩:=aL;have aA:p=(x.dM 1000001).2:=aK.2 aw.symm;rw[<-aA];exact au.mono S
 have hS:gW K x n {tmps:=P++Cg (s.ntmps-P.size) undef,defers:=[]} w ⟨lV 0 args++F5 sz Q aa,h⟩:=by
  refine⟨rfl,fv,aJ,⟨fL.refl _ _,λi a d=>?_,λl y a _=>a,λi aQ r k l y aR G N=>absurd ef aR,λi aP _ d=>ef,λi r am _ l y ag=>.inr ⟨i,r,am,ag⟩⟩,λaB v ab=>?_⟩
  .obtain⟨rfl,rfl⟩:=aO i a d;exact an.mono S
  .rcases MU _ _ _ _ ab with z|z
   .have⟨_,N⟩:=BD args 0 aB v z;have⟨p,t,ad⟩:=al (aB-0) v N;simp only[ti]at t;refine⟨p,?_,ad.mono S⟩;have bg:=(l4.1 t).1;rw[p3,dE I];rwa[r_ (l4.1 t).1]
   .simp only[F5,io]at z;split at z
    next ax=>obtain rfl:=mg z;refine⟨_,?_,aM⟩;rw[<-ax,p3,dA I];simp[K]
    .simp[cO]at z
 refine calls_of_wp ag aG (wp_mono (ax K _ w ⟨x,hS⟩) λe ah aE ap=>?_);have⟨ao,⟨ai,k⟩,C⟩:=ap;have ak:((∃ae,ll u ao ay s.results.toList=B ae/\ma ae=B r)/\cO ao.Y 1000001=B (.fw b sz q)/\∃az ae,cO ao.tmps 2000000=B (.c<|.d_ az 1000003 Q ae))->ah.defers=[]/\∃v,(results s ah.tmps).run u aE=.ok v aE/\∃p ai,Ending.returned v=.returned p/\fL w (er x 1000001<|.fw b sz Q) aE/\(∀l y,er ai 1000001 (.fw b sz q) l y->er x 1000001 (.fw b sz Q) l y\/w.heap.size<=l)/\((ai.dM 1000001).2=(x.dM 1000001).2\/mc (x.dM 1000001).2<mc (ai.dM 1000001).2)/\
   ∀A,rd.gU A->yF w (er x 1000001<|.fw b sz Q) A aE (er ai 1000001<|.fw b sz q)->fM A ai p r/\iv A ai aE 1000001 (.fw b sz q):=by
  rintro⟨⟨ae,G,N⟩,t,az,aU,D⟩;have⟨p,ad,aD⟩:=NJ k.kM G N;have aq:∀l y,er ai 1000001 (.fw b sz q) l y->h7 ai ao.Y l y:=λl y a=>⟨_,_,t,a⟩
  have⟨o,aC,au⟩:=k.tmps _ _ D;have a0:o=(x.dM 1000001).2:=by rw[p3,dA I]at aC;simpa[K]using aC.symm
  have⟨_,aT⟩:=au;have aK:Q<=mc (ai.dM 1000001).2:=aT.1;have a6:Q=mc (ai.dM 1000001).2->o=(ai.dM 1000001).2:=aT.2;refine⟨k.defers,p,ad,p,ai,rfl,k.eV.gJ.kN λl y a=>St.1 a,?_,?_,?_⟩
  .intro l y d;rcases la l w.heap.size with af|af
   .exact .inl<|St.1<|k.eV.may l y (aq l y d) af
   .exact .inr af
  .by_cases aW:Q=mc (ai.dM 1000001).2
   .left;rw[<-a0];exact(a6 aW).symm
   .right;rw[aw];omega
  .intro A aN aj;have ar:(fd K ai ao.Y aE).gU A:=by
    intro l y v ab;have aI:=G9 ai ao.Y k.eV.gJ l y v ab;unfold fd at ab;split at ab
    .cases ab
    .rename_i d;split at ab
     .exact aN l y v ab
     .rename_i aH;refine aj l y v ?_ (λC=>d<|aq l y C) aI;rcases la l w.heap.size with D|D
      .exact .inr (St.1 (Hx λaF=>aH ⟨D,aF⟩))
      .exact .inl D
   exact⟨aD.mono ar,(k.eV.gg _ _ t).mono ar⟩
 cases e<;>simp only[mE,Hc]at C<;>simp only[bodyPost]
 case normal=>exact ak C
 case ret=>exact ak C
def ZW{u:dw}{f:gk}{a:n5}{c:k7}{args:E cT}{b sz Q d:Nat}{i:E (E V)}{r:cT}(g:E (E Nat))(n j:Nat)(l:u.funcs[f]?=B a)(k:a.body=B c)(cR:a.ntmps=n)(cN:decide (F args<=n/\n<=2000000)=T)(hi:args[j]?=B (.c (.d_ sz 1000003 Q i)))
  (ax:∀K,TS u K n (.mk [.code c] .normal ⟨lV 0 args++F5 sz Q i,[(1000001,.fw b sz Q)]⟩)<|Hc u a g b sz Q r d):sj u f args b sz Q r d:=
 ZX g n l k cR cN (λ_ _ _ h=>have⟨p,_,C⟩:=h j _ hi;⟨p,C⟩) ax
def wQ{u:dw}{K:fb}{n:Nat}{N:dT}{j:n5}{o:E (E Nat)}{i sz Q b:Nat}{d:E (E V)}{r:cT}{g:Nat}(a:N.t2=T)(h:(ll u N.d1 o j.results.toList).bind ma=B r)(m:cO N.d1.Y 1000001=B (.fw i sz g))(l:cO N.d1.tmps 2000000=B (.c (.d_ b 1000003 Q d))):TS u K n N (Hc u j o i sz Q r g):=by
 have⟨ae,G,k⟩:=jc.1 h;unfold dT.t2 at a;split at a
 .exact⟨⟨ae,G,k⟩,m,b,d,l⟩
 .exact⟨⟨ae,G,k⟩,m,b,d,l⟩
 .cases a
def NE{rd:ez}{x:dY}{i:Nat}{v:dp}{a:V}(d:a.s0=T)(h:fA rd x v (a.n3 i)):fA rd (x.iP 1000001 (x.dM i) (0,0)) v a:=by
 rcases abU d with⟨q,A,ae,rfl⟩|⟨G,b⟩
 .have aF:fA rd x v (.d_ q (i+2) A ae):=by simpa[V.n3]using h
  have⟨G,b⟩:=aF;refine⟨G,?_⟩;simp only[eA,dY.iP,if_true]at b⊢;exact b
 .rw[b]at h;exact nZ v a G h
def are{rd:ez}{x ai:dY}{i:Nat}(g:(x.dM i).2=(ai.dM 1000001).2){v:dp}{a:V}(d:a.s0=T)(h:fA rd ai v a):fA rd x v (a.n3 i):=by
 rcases abU d with⟨q,A,ae,rfl⟩|⟨G,b⟩
 .have⟨G,b⟩:=h;have aF:fA rd x v (.d_ q (i+2) A ae):=by refine⟨G,?_⟩;simp only[eA,g]at b⊢;exact b
  simpa[V.n3]using aF
 .rw[b];exact nZ v a G h
theorem afk{f:gk}{aI ak:E cT}{r:cT}{i b sz Q k:Nat}(aZ:E (E Nat))(a7:hF ops y ao=B T)(a5:jB n y=T)(a3:lh ao y=B (f,aI))(s:iz u f=T)(aL:m3 aZ aI=ak.map (cT.map (V.n3 i)))(bb:ak.all (λv=>v.eY V.s0)=T)(ay:r.eY V.s0=T)(cN:cO ao.Y i=B (.fw b sz Q))(Y:sj u f ak b sz Q r k):
  mo u n ops y ⟨ao,y.dst,r.map<|V.n3 i,B (i,.fw b sz k),Z,M,[]⟩:=by
 intro K q aj _;refine nj (aj.guard a7) λx t w D br ah a2=>?_
 have aV:=D.kM.o y;have⟨P,G,a0,a1⟩:=vp (aj.callee a3) s aV;have ab:=aj.h _ _ cN;have aK:=D.eV.gg i _ ab
 let ae:dY:=x.iP 1000001 (x.dM i) (0,0);have aA:ae.dM 1000001=x.dM i:=by simp[ae,dY.iP]
 have aS:∀l y,er ae 1000001 (.fw b sz Q) l y↔er x i (.fw b sz Q) l y:=λl y=>by simp only[er,aA]
 have a4:=Y (fd K x q.Y w) ae w P aV.oy (by
  rw[G];have:=congrArg F aL;rw[FL,fT]at this;exact this) (λj o ad=>by
  have aY:(ak.map<|cT.map<|V.n3 i)[j]?=B (o.map<|V.n3 i):=by rw[gy,ad];rfl
  rw[<-aL]at aY;have⟨bl,a,d,bf⟩:=Bj aZ aI j _ aY;have⟨p,aC,au⟩:=a0 j a d;have am:=tY bl au;rw[<-bf]at am;refine⟨p,aC,?_⟩;have aB:=fp.1 bb o<|lp ad;cases o with
  |c a=>exact NE (by simpa[cT.eY]using aB) am
  |agg bs=>have⟨aJ,aG,aD,aQ⟩:=am;refine⟨aJ,aG,by simpa using aD,λm o aw=>?_⟩;have⟨aq,aF,A⟩:=aQ m (o.n3 i) (by rw[gy,aw];rfl);exact⟨aq,aF,NE (fp.1 (by simpa[cT.eY]using aB) o (lp aw)) A⟩
  |eu bo=>
   have⟨aJ,aG,aD,aQ⟩:=am;refine⟨aJ,aG,by simpa using aD,λm o aw=>?_⟩;have⟨aq,aF,A⟩:=aQ m (o.1,o.2.map<|V.n3 i) (by rw[gy,aw];rfl);refine⟨aq,aF,?_⟩;have bg:(bo.all λa=>a.2.all V.s0)=T:=aB;have ax:=fp.1 bg o<|lp aw;unfold p9 at A⊢;simp only at A;split at A
   next s=>rw[dE s];have⟨bq,z,aH,an⟩:=A;refine⟨bq,z,by simpa using aH,λbh av aU=>?_⟩;have⟨bp,bj,bk⟩:=an bh (av.n3 i) (by rw[gy,aU];rfl);exact⟨bp,bj,NE (fp.1 ax av<|lp aU) bk⟩
   .rename_i s;rw[dA s];have⟨av,z,aH⟩:=A;have:∃S,o.2=[S]/\av=S.n3 i:=by
     cases ad:o.2 with
     |nil=>rw[ad]at z;cases z
     |cons S bn=>
      rw[ad]at z;cases bn with
      |nil=>simp at z;exact⟨S,rfl,z.symm⟩
      |cons _ _=>simp at z
    obtain⟨S,an,rfl⟩:=this;rw[an]at ax;exact⟨S,an,NE (by simpa using ax) aH⟩) (by
  have⟨ar,C⟩:=aK;exact⟨ar,by rw[aA];exact C⟩) (λl N a=>TQ ⟨i,_,ab,(aS l N).1 a⟩)
 unfold ln;rw[a1];simp only[ly];refine a4.mono λe aE ap=>?_
 obtain⟨p,ai,rfl,a8,a_,aT,bc⟩:=ap;simp only;rw[aA]at aT
 let aN:dY:={dn:=x.dn,dM:=λe=>if e=i then((x.dM i).1,(ai.dM 1000001).2)else x.dM e};have az:aN.dM i=((x.dM i).1,(ai.dM 1000001).2):=by simp[aN]
 have a9:EJ x aN i:=by
  refine⟨λ_=>rfl,λe=>?_,λe al=>?_,?_,?_⟩
  .simp only[aN];split
   next h=>subst h;rfl
   .rfl
  .simp only[aN];rw[dA al]
  .rw[az];rcases aT with h|h
   .left;rw[h]
   .right;exact h
  .have⟨ar,C⟩:=aK;have⟨t,c,h,_⟩:=xq C;exact⟨t,_,c,h⟩
 have bt:∀l y,er aN i (.fw b sz k) l y↔er ai 1000001 (.fw b sz k) l y:=λl y=>by simp only[er,az]
 have af:fL w (er x i<|.fw b sz Q) aE:=a8.kN cU;have a6:∀l y,er aN i (.fw b sz k) l y->er x i (.fw b sz Q) l y\/w.heap.size<=l:=λl y a=>(a_ l y cU).imp cU id
 have key:(fd K x q.Y w).gU (fd K aN (hB i (.fw b sz k) q.Y) aE)->fM (fd K aN (hB i (.fw b sz k) q.Y) aE) ai p r/\iv (fd K aN (hB i (.fw b sz k) q.Y) aE) ai aE 1000001 (.fw b sz k):=by
  intro aa;refine bc _ aa ?_;intro l N aq aM d aO;have aX:=rk aE _ aO;have ba:∀e a,e≠i->cO q.Y e=B a->er x e a l N->False:=by
   intro e a aR aW aP;rcases aM with ag|ag
   .have:=(D.eV.gg e a aW).lt aP;omega
   .exact D.eV.lR e i a _ l N aR aW ab aP lB
  unfold fd;rw[dA]
  .split
   .rename_i s;exfalso;rcases aM with ag|ag
    .have:=D.eV.gJ.size;omega
    .exact s.2<|D.eV.may l N ⟨i,_,ab,(aS l N).1 ag⟩ s.1
   .exact aO
  .rintro⟨e,a,aC,au⟩;rw[kZ]at aC;split at aC
   next al=>subst al;cases aC;exact d cU
   next al=>refine ba e a dd aC ?_;have:=qZ (x:=x) (ai:=aN) (i:=e) ef a;rwa[this]at au
 have⟨bm,aa⟩:=D.jC (r:=.fw b sz k) ab a9 af a6 cU rfl (λaa=>by have⟨ar,C⟩:=(key aa).2;exact⟨ar,by rw[az];exact C⟩)
 have⟨bd,_⟩:=key aa;exact a2 _ _ ⟨aN,bm.put y.dst (nG a5) (bd.imp (λv a d g=>are cU d g) ay)⟩
def ahU{f:gk}{ak:E cT}{r:cT}{a sz Q b:Nat}(i:Nat)(d:E (E Nat))(Y:sj u f ak a sz Q r b)(p:P.callee d=B (f,ak.map (cT.map (V.n3 i))))(ar:(P.ft n&&iz u f&&ak.all (λv=>v.eY V.s0)&&r.eY V.s0)=T)(cN:cO P.need.Y i=B (.fw a sz Q))
  (g:TD u K n (P.push ⟨P.need,P.dst,r.map<|V.n3 i,B (i,.fw a sz b),Z,M,[]⟩) ah):TD u K n P ah:=by
 simp only[fz]at ar;have⟨⟨⟨aS,aN⟩,a2⟩,j⟩:=ar;have⟨q,y,cK,G,k,l⟩:=rN aS;have⟨s,m,o⟩:=Bi p cK;rw[l]at g;exact q8 cK (afk d G k m aN o a2 j cN Y) rfl g
theorem tP{f:gk}{ak:E cT}{r:cT}{a sz Q b:Nat}(i:Nat)(d:E (E Nat))(Y:sj u f ak a sz Q r b)(q:N.callee d=B (f,ak.map (cT.map (V.n3 i))))(ar:(N.ft n&&iz u f&&ak.all (λv=>v.eY V.s0)&&r.eY V.s0)=T)(cN:cO N.d1.Y i=B (.fw a sz Q))
  (g:TS u K n (N.next<|(N.d1.f3 i<|.fw a sz b).put N.dst<|r.map<|V.n3 i) ah):TS u K n N ah:=by
 simp only[fz]at ar;have⟨⟨⟨aS,aN⟩,a2⟩,j⟩:=ar;have⟨s,y,cK,G,k,m⟩:=ph aS;have⟨t,o,p⟩:=FI q cK;rw[m]at g;exact o8 cK (afk (ao:=N.d1) d G k o aN p a2 j cN Y K N.d1 ⟨λ_ _ h=>h,λ_ _ h=>h⟩ ⟨λh=>cU,λl h=>cU,λl h=>cU⟩) g
def aay(q:cP)(b:Nat):X (Nat×Nat×E (E V)×Nat):=match cO q.tmps 2000000,cO q.Y b with
 |some (.c (.d_ sz _ Q ae)),B (.fw _ _ a)=>B (sz,Q,ae,a)
 |_,_=>M
def aik(b:Nat){sz Q a:Nat}{ae:E (E V)}(aX:decide (Q<a)=T)(h:aay N.d1 b=B (sz,Q,ae,a))(i:N.pre=T)(g:TS u K n (N.tf (N.d1.put (B 2000000) (.c (.d_ sz (b+2) Q ae)))) ah):TS u K n N ah:=by
 unfold aay at h;split at h
 next m eT j o aG l k G d=>cases h;have aX:=f8 aX;refine vg _ (λt w r=>?_) i g;have⟨x,r⟩:=r;have ab:=afm<|r.eV.gg _ _ d;refine⟨x,r.TT G λp aA=>?_⟩;have⟨aC,_⟩:=aA;exact⟨aC,by simp only[eA];rw[ab];exact⟨I,λC=>I⟩⟩
 .cases h
def np(s:E UInt8):ByteArray:=⟨s.toArray⟩
def ZG(s:E UInt8):(np s).size=F s:=by simp[np,ByteArray.size]
def RE(u:dw)(q:cP)(y:dy):X (E (E V)×cQ):=match y.op with
 |.convert b d a=>match u.underlying b,u.underlying d,(dZ q a).bind (mU q 1)with
  |some (.slice e),B .string,B C=>match u.underlying e with
   |some (.int cH)=>B C
   |_=>M
  |_,_,_=>M
 |_=>M
def ale{s:E Int}{c:cQ}(h:RE u q y=B (s.map (c4 cH),c)):jP u y q (.c (.cY (.string (np (mu (c.cL s)))))):=by
 unfold RE at h;split at h;rotate_left;cases h;rename_i z A a cK;split at h;rotate_left;cases h;rename_i e C aA S d;split at h;rotate_left;cases h;rename_i P;cases h;have⟨ai,aa,ab⟩:=jc.1 d;refine iH.jC λx rd t w o=>?_
 have k:=r3 ab o<|o.op a _ hD aa;rw[cQ.map]at k;generalize K:t.eval a=p at*;refine⟨.string<|np<|mu<|c.cL s,?_,.cY _⟩;have⟨g,j,aF,l,G,D,b,ae,af,ag⟩:=k;rw[fT]at l G;generalize ah:c.cL s=i at*;have N:(convert z A p).run u w=.ok (.string<|np<|mu i) w:=by
  subst l;rw[run_convert_bytes_string w z A e g (F i) j aA P S];cases g with
  |none=>
   rcases b with b|⟨g,C,_⟩
   .have:=tq.1 b;subst this;simp[Conv.bytesToString,np,mu];rfl
   .cases C
  |some g=>
   have cN:=run_loadCells_list (P:=u) w g (i.map<|Value.int cH) (λm v aw=>by
    rw[gy]at aw;cases cR:i[m]? with
    |none=>rw[cR]at aw;cases aw
    |some n=>
     rw[cR]at aw;cases aw;rcases b with b|⟨ad,C,b⟩
     .rw[tq.1 b]at cR;cases cR
     .cases C;have⟨v,aC,au⟩:=D.2 m _ 0 (.cY<|.int cH n) (by rw[gy,cR];rfl) rfl;rw[uq,jO]at aC;rw[b _ _ aC];cases au;rfl)
   rw[fT]at cN;rw[run_bytesToString w g (F i) j i cN,foldl_push_bytes];have Q:ByteArray.empty.data= #[]:=rfl;rw[Q];simp[np,mu]
 simp only[execOp,cK,K,N,g3,hM,gn]
def Ul(op:nL)(a o:E UInt8):X Bool:=match op with
 |.eql=>B<|a==o
 |.neq=>B<|!(a==o)
 |.lss=>B<|HE a o
 |.leq=>B<|HE a o||a==o
 |.gtr=>B<|!(HE a o||a==o)
 |.geq=>B<|!HE a o
 |_=>M
def Uk(q:cP)(y:dy):X (nL×ByteArray×ByteArray):=match y.op with
 |.binOp op _ a o _=>match dZ q a,dZ q o with
  |some (.c (.cY (.string t))),B (.c (.cY (.string l)))=>B (op,t,l)
  |_,_=>M
 |_=>M
def aj4(s:E UInt8):(np s).toList=s:=by
 have key:∀(s:E UInt8) (n j:Nat) (r:E UInt8),F s-j=n->Og (np s) j r=r.reverse++s.drop j:=by
  intro s n;induction n with
  |zero=>intro j r h;rw[Og];rw[dA (by rw[ZG];omega),List.drop_eq_nil_of_le I,nb]
  |succ n a=>
   intro j r h;rw[Og];rw[dE (by rw[ZG];omega),a (j+1) _ I];have hi:j<F s:=I;rw[VR hi];have:(np s).get! j=s[j]:=by simp[np,ByteArray.get!,hi]
   rw[this];simp
 unfold ByteArray.toList;rw[key s (F s) 0 [] I];simp
def alq{op:nL}{t l:E UInt8}{r:Bool}(ay:Ul op t l=B r)(h:Uk q y=B (op,np t,np l)):jP u y q (bool r):=by
 unfold Uk at h;split at h;rotate_left;cases h;rename_i k m a o p cK;split at h;rotate_left;cases h;rename_i i j d ad;cases h;refine iH.jC λx rd ak w b=>?_
 have G:=hw<|b.op a _ hD d;have g:=hw<|b.op o _ hD ad;refine⟨.bool r,?_,.cY _⟩;cases op<;>simp only[Ul,h0,reduceCtorEq]at ay<;>subst ay<;>simp[execOp,cK,G,g,eqGuard,binOp,Go.Op.stringOp,aj4]
def n0(A:Nat)(s a:E Int):E Int:=(jG A).map λj=>if j<F a then a.getD j 0 else s.getD j 0
def FV(u:dw)(aq A:Nat)(q:cP)(y:dy):X (Nat×E V×E V×E V×E (E V)×cQ):=match y.op with
 |.call {callee:=.builtin .copy,args:=ae,argTypes:=p}=>match ae.toList,p.toList with
  |[a,o],[m,_]=>match u.underlying m with
   |some (.slice g)=>match u.info? g with
    |some j=>match dZ q a,(dZ q o).bind (mU q 1)with
     |some (.c (.ip i l k)),B (s,d)=>match q.lj i with
      |some b=>if j.size=1/\l=aq/\k=A/\aq+A<=F b then B (i,b.take aq,(b.drop aq).take A,b.drop<|aq+A,s,d)else M
      |none=>M
     |_,_=>M
    |none=>M
   |_=>M
  |_,_=>M
 |_=>M
theorem pa(g:g0)(A:Nat)(s:E Int)(j:Nat):(ek g A s)[j]?=if j<A then B (.cY (.int g (s.getD j 0)))else M:=by
 unfold ek;rw[gy];by_cases h:j<A
 .rw[dE h,tt h];rfl
 .rw[dA h,pv cU];rfl
def pb(g:g0)(A:Nat)(s:E Int):F (ek g A s)=A:=by simp[ek]
def Ma(A:Nat)(s a:E Int)(j:Nat)(h:j<A):(n0 A s a).getD j 0=if j<F a then a.getD j 0 else s.getD j 0:=by unfold n0;rw[ur,gy,tt h];rfl
def amy{pre ak a post:E V}(cN:F ak=F a)(m:Nat)(h:∀j,F pre+j=m->j<F ak->ak[j]?=a[j]?):(pre++ak++post)[m]?=(pre++a++post)[m]?:=by
 simp only[iu,p7];by_cases G:m<F pre
 .simp only[dE G]
 .simp only[dA G,<-cN];by_cases b:m-F pre<F ak
  .simp only[dE b];exact h _ I b
  .simp only[dA b]
def afe{i aq A:Nat}{g:g0}{s ag:E Int}{pre post:E V}{ai:cQ}(a2:decide (F pre=aq)=T)(h:FV u aq A q y=B (i,pre,ek g A s,post,ag.map (c4 g),ai)):
  qh u y q i (.box<|pre++ek g A s++post) (.box<|pre++ek g A (n0 A s<|ai.cL ag)++post) (int W (min (F<|ai.cL ag) A:Nat)):=by
 have a1:=f8 a2;unfold FV at h;split at h;rotate_left;cases h;rename_i ae aM cK;split at h;rotate_left;cases h;rename_i a o an ao a_ a6;have ba:ae= #[a,o]:=by rw[<-lF (xs:=ae),a_]
 have a7:aM= #[an,ao]:=by rw[<-lF (xs:=aM),a6]
 subst ba;subst a7;split at h;rotate_left;cases h;rename_i aG aA;split at h;rotate_left;cases h;rename_i bd aB;split at h;rotate_left;cases h;rename_i b t D br aO d ad;split at h;rotate_left;cases h;rename_i aQ cN;split at h;rotate_left;cases h;rename_i ap;obtain⟨aU,rfl,rfl,aP⟩:=ap;injection h with h
 simp only[mh]at h;obtain⟨rfl,aS,aT,aV,rfl,rfl⟩:=h;have aX:aQ=pre++ek g D s++post:=by rw[<-aS,<-aT,<-aV];rw[iu,<-ri,tn,tn]
 have aj:=za cN;rw[aX]at aj;refine⟨aj,rfl,λx l bf az=>?_,λx rd ak w aa=>?_⟩
 .simp only[er,g9,pb]at az⊢;exact az
 have⟨bq,bb,bc⟩:=jc.1 ad;have a9:=aa.op a _ ml d;have⟨bh,aR,aW,bk,bl,Q⟩:=a9;have⟨bj,ax,aF,ar,av,aN,N,_⟩:=r3 bc aa<|aa.op o _ ml bb;rw[cQ.map]at ar av aN N;rw[fT]at ar av;have aK:iv rd x w b (.box<|pre++ek g D s++post):=aa.gg b _ aj;simp only[execOp,cK,resolve,invoke,builtin,g3,hM,gn,p5,hx,jY,aW,ar];generalize bo:aO.cL ag=z at*;generalize af:min (F z) D=k at*;have aD:HC (F z) D=k:=af;by_cases aE:k=0
 .rw[aeu an ao y.type _ bd aA aB _ _ _ _ _ _ (by rw[aD,aE])];simp only[gn];refine⟨_,_,rfl,fL.refl _ _,.inr ⟨_,rfl,λam _=>?_⟩,λam al=>?_⟩
  .rw[aE];exact .cY _
  .have:ek g D (n0 D s z)=ek g D s:=by
    apply tp;intro C;rw[pa,pa];by_cases ap:C<D
    .rw[dE ap,dE ap,Ma _ _ _ _ ap,dA I]
    .rw[dA ap,dA ap]
   rw[this];exact iv.mono al aK
 .have bp:0<D:=by omega
  have aH:0<F z:=I;rcases Q with Q|Q
  .omega
  rcases N with N|⟨ah,N,bg⟩
  .have:=tq.1 N;rw[this]at aH;simp at aH
  subst Q;subst N;have bn:k<=F z:=I;have bm:k<=D:=I;have a5:F (aF.take k)=k:=by rw[hO,av];omega
  have aJ:∀j,j<k->aF[j]?=B (.int g<|z.getD j 0):=by intro j hi;have K:j<F z:=I;have⟨p,aC,au⟩:=aN.2 j _ 0 (.cY<|.int g z[j]) (by rw[gy,e6 K];rfl) rfl;rw[uq,jO]at aC;cases au;rw[aC,ur,e6 K];rfl
  have a4:∀m v,(aF.take k)[m]?=B v->w.cell? (ah.add m)=B v:=by
   intro m v aw;rw[jd]at aw;split at aw
   .exact bg m v aw
   .cases aw
  have S:∀m,m<k->∃p,w.cell? ⟨(x.dn b).1,(x.dn b).2+t+m,M⟩=B p/\w.frozen? ⟨(x.dn b).1,(x.dn b).2+t+m,M⟩=Z:=by
   intro m aw;have⟨p,aC,au,_⟩:=aK (t+m) (.cY<|.int g<|s.getD m 0) (by rw[iu,rc I,tj (by rw[pb];omega),pa,(dd:t+m-F pre=m),dE I])
   rw[<-lH]at aC au;exact⟨p,aC,au⟩
  have aI:=run_storeCells_cells (P:=u) (x.dn b).1 ((x.dn b).2+t) (aF.take k) 0 w
   (λm aw=>by have⟨p,aC,_⟩:=S m I;rw[jO,aC];rfl)
   (λm aw=>by have⟨p,_,au⟩:=S m I;rw[jO];exact au)
   (λv ab=>by
     obtain⟨m,aw,rfl⟩:=List.getElem_of_mem ab;have:=aJ m I;have P:(aF.take k)[m]?=B (.int g<|z.getD m 0):=by rw[jd,dE I];exact this
     rw[e6 aw]at P;rw[mg P];rfl)
  simp only[jO]at aI;have aY:=run_firstCells_some (P:=u) w 1 k ah (F z) ax (aF.take k) (by rw[a5,uq]) a4;have a3:(p6 #[an,ao] y.type #[.slice (B ⟨(x.dn b).1,(x.dn b).2+t,M⟩) D aR,.slice (B ah) (F z) ax]).run u w=.ok (goInt k) (w.setCells (x.dn b).1 ((x.dn b).2+t)<|aF.take k):=by simp[p6,run_underlying aA,v3,sizeOf,typeInfo,aB,aU,aD,aY,aI]
  rw[a3];simp only[gn];have a8:=fL.setCells (x.dn b).1 (aF.take k) ((x.dn b).2+t) w;rw[a5]at a8;refine⟨_,_,rfl,a8.kN λl bf C=>?_,.inr ⟨_,rfl,λam _=>.cY _⟩,λam al=>?_⟩
  .have⟨aC,au,aL⟩:=C;simp only[er,g9,pb];exact⟨aC,I,I⟩
  .intro m o aw;by_cases aZ:t<=m/\m<t+k
   .rw[iu,rc I,tj (by rw[pb];omega),pa,dE I,Ma _ _ _ _ I,dE I]at aw;cases aw;have ay:=World.cell?_setCells_in (x.dn b).1 (aF.take k) ((x.dn b).2+t) w (λj hi=>by have⟨p,aC,_⟩:=S j I;rw[aC];rfl) (m-t) I;rw[(dd:(x.dn b).2+t+(m-t)=(x.dn b).2+m)]at ay;have⟨p,aC,au⟩:=S (m-t) I;rw[(dd:(x.dn b).2+t+(m-t)=(x.dn b).2+m)]at aC au;refine⟨_,ay,aht,?_⟩;have P:(aF.take k)[m-t]?=B (.int g<|z.getD (m-t) 0):=by rw[jd,dE I];exact aJ _ I
    rw[e6 I]at P;rw[mg P,a1];exact .cY _
   .have a0:(pre++ek g D s++post)[m]?=B o:=by rw[<-aw];refine amy (by rw[pb,pb]) m (λj hi K=>?_);rw[pb]at K;rw[pa,dE K,pa,dE K,Ma _ _ _ _ K,dA I]
    have⟨p,aC,au,aL⟩:=aK m o a0;exact⟨p,a8.cell aC λC=>aZ ⟨I,I⟩,aht,aL.mono al⟩
def X3(s:E Int)(c:cQ)(h:N.fQ (RE u)=B (s.map (c4 cH),c))(ar:N.ft n=T)(a:TS u K n (N.ret (.c (.cY (.string (np (mu (c.cL s))))))) ah):TS u K n N ah:=l8 _ ar (λd b cK=>ale<|jb h cK) a
def aiz(op:nL)(t l:E UInt8){r:Bool}(ay:Ul op t l=B r)(h:N.fQ Uk=B (op,np t,np l))(ar:N.ft n=T)(a:TS u K n (N.ret (bool r)) ah):TS u K n N ah:=l8 _ ar (λd b cK=>alq ay<|jb h cK) a
def QW{g:g0}(i aq A:Nat)(s b:E Int)(a:cQ){pre post:E V}(d:decide (F pre=aq)=T)(h:P.fQ (FV u aq A)=B (i,pre,ek g A s,post,b.map (c4 g),a))(ar:P.ft n=T)
  (j:TD u K n (P.push ⟨P.need,P.dst,int W (min (F<|a.cL b) A:Nat),B (i,.box<|pre++ek g A (n0 A s<|a.cL b)++post),Z,M,[]⟩) ah):TD u K n P ah:=
 yG (λl k cK=>afe d<|jW h cK) ar j
def LD(u:dw)(K:fb)(n:Nat)(c:k7)(ah:fE->cP->Prop):Nat->cP->Prop
 |0,_=>False
 |A+1,q=>ht u K n c q<|zu (LD u K n c ah A) ah
def aiI{c:k7}{q:cP}(A:Nat)(h:LD u K n c ah A q):ht u K n (.loop c) q ah:=by
 refine Yg (z:=Nat) (λA q=>LD u K n c ah A q) (λA=>A) A h λA q a=>?_
 cases A with
 |zero=>exact a.elim
 |succ A=>
  refine Yh a λe ao C=>?_
  cases e with
  |normal=>exact⟨A,C,Nat.lt_succ_self A⟩
  |exit j=>exact C
  |goto j=>exact C
  |ret=>exact C
  |panic j=>exact C
  |outgrown=>exact C
def dT.amj:dT->k7
 |.mk (.code (.loop c)::_) .normal _=>c
 |_=>.skip
def N2(u:dw)(K:fb)(n:Nat)(a:dT)(A:Nat)(ah:fE->cP->Prop):fE->cP->Prop:=zu (LD u K n a.amj (mE u K n a.rest ah) A) (mE u K n a.rest ah)
def aiB(A:Nat)(a:N.vE=T)(g:TS u K n (N.body N.d1) (N2 u K n N A ah)):TS u K n N ah:=by
 unfold dT.vE at a;split at a
 .exact aiI (A+1) g
 .cases a
def Ye{A:Nat}(d:N.vx=T)(b:a.vE=T)(g:TS u K n (a.body N.d1) (N2 u K n a A ah)):TS u K n N (N2 u K n a (A+1) ah):=by
 unfold dT.vx at d;split at d
 .unfold dT.vE at b;split at b
  .exact g
  .cases b
 .cases d
def aiC{A:Nat}(b:N.sL=T)(g:TS u K n (N.l_ a.rest) ah):TS u K n N (N2 u K n a A ah):=by
 unfold dT.sL at b;split at b
 .exact g
 .exact g
 .cases b
theorem asW{ops:Array dy}{y:dy}{ao:cP}{f:gk}{p ak:E cT}{i e:Nat}{r:cT}{b:eD}(m:E (E Nat))(af:hF ops y ao=B T)(j:y.dst=B i)(aa:i<n)(S:i<1000000)(ad:e<1000000)(P:lh ao y=B (f,p))(D:iz u f=T)(x:m3 m p=ak)(Q:ak.all (λv=>v.eY V.il)=T)(l:b.kr=Z)(ay:r.eY (V.fn (ms [(i,e)]))=T)(Y:ih u f ak [] r [(e,b)]):
  mo u n ops y ⟨ao,B i,r.map<|V.fD<|fZ [(i,e)],B (i,b),T,M,[]⟩:=by
 intro K q aj cR;have ah:st i q:=cR.1 rfl;have⟨am,an,aq⟩:=ah;have N:fZ [(i,e)] e=i:=by simp[fZ]
 have ai:∀a,(cO [(i,e)] a).isNone=(a !=i):=by
  intro a;rw[io];by_cases d:i=a
  .subst d;simp
  .rw[dA d];simp[cO];exact λh=>d h.symm
 have k:(λa=>(cO [(i,e)] a).isNone)=λa=>a !=i:=funext ai
 have ae:∀z,b.eY z=T:=by
  intro z;cases b with
  |box s=>cases l
  |row _ _ _ _=>rfl
  |fw _ _ _=>rfl
  |dR _=>rfl
  |g7 _=>rfl
 have:=XI (u:=u) (K:=K) (n:=n) (ops:=ops) (y:=y) (q:=q) (h:=[]) (aF:=[(e,b)]) (r:=r) m [(i,e)] M (aj.guard af) (by simp[jB,j,aa]) (aj.callee P) D x Q rfl
  (by intro z al;rw[gO.1 al];exact⟨⟨⟨⟨⟨QS,by simpa using S⟩,by simpa using N⟩,QS⟩,by simp[am]⟩,by simpa using ad⟩)
  (by
    intro o v ab;rw[j,k];by_cases ax:o=i
    .subst ax;simp
    .rw[an o v ab ef,U9])
  (by intro t r ay;rw[k];exact aq t r ay)
  ay
  (by intro C ap;rw[gO.1 ap];simp[ae])
  Y
 refine this.jU ?_;have ag:∀A,b.map A=b:=by
  intro A;cases b with
  |box s=>cases l
  |row _ _ _ _=>rfl
  |fw _ _ _=>rfl
  |dR _=>rfl
  |g7 _=>rfl
 have aG:q.after [(e,b)] r [(i,e)] M y.dst=cP.put {q with Y:=(i,b)::q.Y} (B i) (r.map<|V.fD<|fZ [(i,e)]):=by rw[j];simp[cP.after,t7,y5,io,ag]
 rw[aG];refine⟨λg=>rfl,λg=>?_⟩;simp only[ec.cL,ec.pre,uj,ug,cP.f3];rw[io,kZ]
def ahW{f:gk}{ak:E cT}{i e:Nat}{r:cT}{a:eD}(b:E (E Nat))(Y:ih u f ak [] r [(e,a)])(s:P.callee b=B (f,ak))(ar:(P.k2 n i&&iz u f&&decide (e<1000000)&&ak.all (λv=>v.eY V.il)&& !a.kr&&r.eY (V.fn (ms [(i,e)])))=T)
  (g:TD u K n (P.push ⟨P.need,B i,r.map<|V.fD<|fZ [(i,e)],B (i,a),T,M,[]⟩) ah):TD u K n P ah:=by
 simp only[fz,i6,xA]at ar;have⟨⟨⟨⟨⟨aS,aN⟩,a2⟩,d⟩,j⟩,k⟩:=ar;have⟨t,y,cK,G,l,m,o⟩:=GJ aS;have⟨x,p,q⟩:=Bi s cK;exact q8 cK (asW b G l m o a2 p aN q d j k Y) rfl g
def atl{ag:Type}{rd:ez}{an:dp}{sz:Nat}(A:Nat)(f:ag->E V)(i:ag)(q:E Nat)(K:an.cells.size=sz)(az:kp q (an.cells.toList.map V.cY)=f i):hK rd sz (nJ an.cells A).toList ((fe A i).map f):=by
 have u:F (f i)=sz:=Xr;refine⟨λa d=>?_,λj a m o d ad=>?_⟩
 .obtain⟨s,b,rfl⟩:=hT.1 d;rw[(U5.1 b).2];exact u
 .rw[gy]at d;obtain⟨s,b,rfl⟩:=gG.1 d;have hi:j<A:=by have:=(ie.1 b).1;simpa using this
  have t:s=i:=by rw[U6,dE hi]at b;cases b;rfl
  subst t;have aw:m<sz:=by have:=(ie.1 ad).1;omega
  rw[<-az]at ad;obtain⟨g,y,l,rfl⟩:=tW q _ m o ad;rw[gy]at l;obtain⟨p,k,rfl⟩:=gG.1 l;refine⟨p,?_,FJ g<|.cY p⟩;have x:j*sz+m<A*sz:=by have:(j+1)*sz<=A*sz:=j1 _ hi;rw[jZ,rh]at this;omega
  simp only[nJ,v5,Oe];rw[K,pu fv];simp only[iq,U7,h0];rw[Nat.SX aw];rw[v5]at k;rw[getElem!_def,k]
def atk{an:dp}(A:Nat)(N:∀p∈an.cells.toList,p.oneCell'=T):∀p∈(nJ an.cells A).toList,p.oneCell'=T:=by
 intro p aA;simp only[nJ,Array.mem_toList_iff,Array.mem_map,Array.mem_range]at aA;obtain⟨j,hi,rfl⟩:=aA;have Y:0<an.cells.size:=by
  rcases Nat.eq_zero_or_pos an.cells.size with h|h
  .rw[h]at hi;omega
  .exact h
 have a:=zC j Y;rw[getElem!_pos an.cells _ a];exact N _ dh
theorem arE{u:dw}{w:d2}{ak:Act}{x:dY}{rd:ez}{q:cP}{y:dy}(A:lJ x rd ak w q y){d hi:X hp}(K:∀o,d=B o->o∈y.op.operands.toList)(D:∀o,hi=B o->o∈y.op.operands.toList){s aV:Nat}{t l:Int}{p m:X (g0×Int)}
  (k:d.map (dZ q)=p.map λz=>B<|int z.1 z.2)(j:hi.map (dZ q)=m.map λz=>B<|int z.1 z.2)(g:t=(p.map (·.2)).getD 0)(i:l=(m.map (·.2)).getD (s:Int))(dI:0<=t)(G:t<=l)(C:l<=aV):
  (un T s aV (d.map ak.eval) (hi.map ak.eval) (M:X dp)).run u w=.ok (t.toNat,l.toNat,aV) w:=by
 have b:(match hi.map ak.eval with|some v=>um v aV .sliceAcap|none=>pure s:Sem Nat).run u w=.ok l.toNat w:=by
  cases hi with
  |none=>
   cases m with
   |none=>simp at i;subst i;simp
   |some z=>simp at j
  |some o=>
   cases m with
   |none=>simp at j
   |some z=>simp only[iq,h0,n7]at j i;have:=hw<|A.op o _ cU j;simp only[iq,this];rw[<-i];exact vW _ _ _ _ I I
 have a:(match d.map ak.eval with|some v=>um v l.toNat .sliceB|none=>pure 0:Sem Nat).run u w=.ok t.toNat w:=by
  cases d with
  |none=>
   cases p with
   |none=>simp at g;subst g;simp
   |some z=>simp at k
  |some o=>
   cases p with
   |none=>simp at k
   |some z=>simp only[iq,h0,n7]at k g;have:=hw<|A.op o _ cU k;simp only[iq,this];rw[<-g];exact vW _ _ _ _ I I
 unfold un;cases hi with
 |none=>
  cases d with
  |none=>simp at a b⊢;exact dd
  |some o=>simp only[oD,iq,g3,hM,gn,tu,j0,if_false]at a b⊢;cases b;rw[a];simp
 |some an=>
  cases d with
  |none=>simp only[oD,iq,g3,hM,gn,if_true]at a b⊢;rw[b];simp at a⊢;exact a
  |some o=>simp only[iq,g3,hM,gn,tu,j0,if_false,if_true]at a b⊢;rw[b];simp only[gn];rw[a];simp
theorem arD{u:dw}{w:d2}{ak:Act}{x:dY}{rd:ez}{q:cP}{y:dy}(j:lJ x rd ak w q y){d:X hp}{hi g:hp}(ab:∀o,d=B o->o∈y.op.operands.toList)(N:hi∈y.op.operands.toList)(P:g∈y.op.operands.toList){S aV:Nat}{t l A:Int}{i:X (g0×Int)}{p s:g0}
  (b:d.map (dZ q)=i.map λz=>B<|int z.1 z.2)(K:dZ q hi=B (int p l))(Q:dZ q g=B (int s A))(a:t=(i.map (·.2)).getD 0)(dI:0<=t)(G:t<=l)(aa:l<=A)(C:A<=aV):
  (un T S aV (d.map ak.eval) (B<|ak.eval hi)<|B<|ak.eval g).run u w=.ok (t.toNat,l.toNat,A.toNat) w:=by
 have aG:=hw<|j.op hi _ N K;have aD:=hw<|j.op g _ P Q;have m:=vW (u:=u) (w:=w) s A aV .slice3Acap I C;have k:=vW (u:=u) (w:=w) p l A.toNat .slice3B I I;unfold un;rw[aG,aD];cases d with
 |none=>
  cases i with
  |none=>simp only[oD,Option.getD_none]at a;subst a;simp only[oD,if_true,g3,m,gn,k,hM];rfl
  |some z=>simp at b
 |some o=>
  cases i with
  |none=>simp at b
  |some z=>simp only[iq,h0,n7]at b a;have aQ:=hw<|j.op o _ cU b;have D:=vW (u:=u) (w:=w) z.1 z.2 l.toNat .slice3C I I;subst a;simp only[iq,aQ,if_true,g3,m,gn,k,Option.isSome_some,D,hM]
def NO(u:dw)(q:cP)(y:dy):X (Nat×Nat×Nat×Int×Int):=match y.op with
 |.slice j a g hi M=>match dZ q a,u.underlying j with
  |some (.c (.row i A)),B (.slice b)=>match cO q.Y i,u.info? b with
   |some (.row _ sz Q _),B d=>match qP q 0 g,qP q A hi with
    |some (_,t),B (_,l)=>if d.size=sz then B (i,sz,Q,t,l)else M
    |_,_=>M
   |_,_=>M
  |_,_=>M
 |_=>M
def arX{i sz Q:Nat}{t l:Int}(h:NO u q y=B (i,sz,Q,t,l))(s:decide (0<=t/\t<=l/\l<=(Q:Int))=T){x:dY}{rd:ez}{ak:Act}{w:d2}(g:lJ x rd ak w q y):
  ∃a c,(x.dM i).1=.slice a Q c/\Q<=c/\c<=maxLen/\(Q=0\/∃lf,a=B ⟨lf,0,M⟩)/\(execOp ak.eval y).run u w=.ok (.value (.slice (if c=t.toNat then a else a.map (·.add<|t.toNat*sz)) (l.toNat-t.toNat)<|c-t.toNat)) w:=by
 unfold NO at h;split at h;rotate_left;cases h;rename_i av aa C hi cK;split at h;rotate_left;cases h;rename_i am S aG d aA;split at h;rotate_left;cases h;rename_i aD ar ag az ap cN A;split at h;rotate_left;cases h;rename_i ax ah aw ai D z;split at h;rotate_left;cases h;rename_i aU;cases h;have⟨db,m,al⟩:=f8 s;have⟨P,p,an,ao⟩:=g.gg i _ cN;have⟨a,c,j,K,N,_,b⟩:=kK p;have⟨ay,ae,aj,k,ab,aq⟩:=g.op aa _ hD d;rw[j]at k;cases k;refine⟨a,c,j,K,N,?_,?_⟩
 .rcases b with b|⟨lf,b,_⟩
  .exact .inl b
  .exact .inr ⟨lf,b⟩
 .have⟨aC,au⟩:=sN D;have⟨aL,aT⟩:=sN z;have af:=arE (u:=u) (ak:=ak) g (d:=C) (hi:=hi) (λo ad=>Lm) (λo ad=>QP) (s:=S) (aV:=c) aC aL au aT db m I;simp only[execOp,cK,oD,Cl,Of,run_underlying aA,ab,af,sizeOf,typeInfo,program,A,g3,hM,mZ,gn,aU]
def aeU{i sz Q:Nat}{t l:Int}{rd:ez}{x:dY}{a:X mX}{c A:Nat}(d:(x.dM i).1=.slice a Q c)(o:c<=maxLen)(b:Q=0\/∃lf,a=B ⟨lf,0,M⟩)(db:0<=t)(g:t<=l)(j:l<=(Q:Int))(k:l.toNat<=A)(m:A<=c):
  fM rd x (.slice (if A=t.toNat then a else a.map (·.add<|t.toNat*sz)) (l.toNat-t.toNat)<|A-t.toNat) (.c<|.sub i sz t.toNat<|l.toNat-t.toNat):=by
 refine⟨a,Q,c,_,_,d,I,rfl,I,I,?_⟩;by_cases N:l.toNat-t.toNat=0
 .exact .inl N
 .right;rcases b with b|⟨lf,b⟩
  .omega
  .refine⟨lf,b,?_⟩;rw[dA I,b];simp only[iq,iS,gx]
def alo{i sz Q:Nat}{t l:Int}(h:NO u q y=B (i,sz,Q,t,l))(b:decide (0<=t/\t<=l/\l<=(Q:Int))=T):jP u y q (.c (.sub i sz t.toNat (l.toNat-t.toNat))):=by
 refine iH.jC λx rd ak w j=>?_
 have⟨a,c,k,s,m,o,p⟩:=arX h b j;have⟨db,d,g⟩:=f8 b;exact⟨_,p,aeU k m o db d g I dd⟩
def Uf(u:dw)(q:cP)(y:dy):X (Nat×Nat×Nat×Int×Int×Int):=match y.op with
 |.slice k a g (B hi) (B j)=>match(dZ q a).bind<|rX q,u.underlying k with
  |some (i,_,sz,Q,_,_),B (.slice b)=>match u.info? b,qP q 0 g,dZ q hi,dZ q j with
   |some d,B (_,t),B (.c (.cY (.int _ l))),B (.c (.cY (.int _ A)))=>if d.size=sz then B (i,sz,Q,t,l,A)else M
   |_,_,_,_=>M
  |_,_=>M
 |_=>M
theorem aln{i sz Q:Nat}{t l A:Int}(h:Uf u q y=B (i,sz,Q,t,l,A))(K:decide (0<=t/\t<=l/\l<=A/\A<=(Q:Int))=T):jP u y q (.c (.sub i sz t.toNat (l.toNat-t.toNat))):=by
 refine iH.jC λx rd ak w j=>?_
 unfold Uf at h;split at h;rotate_left;cases h;rename_i aK s C hi ai cK;split at h;rotate_left;cases h;rename_i ar aG aJ am aO aF aD d aA;split at h;rotate_left;cases h;rename_i ax aL an aB ao aE aH S aa N ae;split at h;rotate_left;cases h;rename_i aU;cases h;have⟨aM,ag,b⟩:=jc.1 d;have⟨db,m,z,aq⟩:=f8 K;have cN:=adQ b;have⟨P,D,av,aw⟩:=j.gg i _ cN;have⟨a,c,k,az,ah,_,g⟩:=kK D;have ab:∃n,ak.eval s=.slice a n c:=by
  have ay:=j.op s _ hD ag;unfold rX at b;split at b
  .split at b
   .cases b;exact⟨_,ay.1.trans k⟩
   .cases b
  .split at b
   .cases b;have⟨aN,al,ap,p,ab,aI⟩:=ay;rw[k]at p;cases p;exact cU
   .cases b
  .cases b
 have⟨aj,ab⟩:=ab;have⟨aC,au⟩:=sN aa;have af:=arD (u:=u) (ak:=ak) j (d:=C) (hi:=hi) (g:=ai) (λo ad=>Lm) ahu ahu (S:=aj) (aV:=c) aC N ae au db m z I;refine⟨.slice (if A.toNat=t.toNat then a else a.map (·.add<|t.toNat*sz)) (l.toNat-t.toNat)<|A.toNat-t.toNat,?_,aeU k ah (by
  rcases g with g|⟨lf,g,_⟩
  .exact .inl g
  .exact .inr cU) db m I I I⟩
 simp only[execOp,cK,iq,Cl,Of,run_underlying aA,ab,af,sizeOf,typeInfo,program,S,g3,hM,mZ,gn,aU]
def Q9(i sz Q:Nat){t l:Int}(a:decide (0<=t/\t<=l/\l<=(Q:Int))=T)(h:N.fQ (NO u)=B (i,sz,Q,t,l))(ar:N.ft n=T)(b:TS u K n (N.ret (.c (.sub i sz t.toNat (l.toNat-t.toNat)))) ah):TS u K n N ah:=l8 _ ar (λg d cK=>alo (jb h cK) a) b
def Q8(i sz Q:Nat){t l A:Int}(a:decide (0<=t/\t<=l/\l<=A/\A<=(Q:Int))=T)(h:N.fQ (Uf u)=B (i,sz,Q,t,l,A))(ar:N.ft n=T)(b:TS u K n (N.ret (.c (.sub i sz t.toNat (l.toNat-t.toNat)))) ah):TS u K n N ah:=l8 _ ar (λg d cK=>aln (jb h cK) a) b
def aep(q:cP)(a:Nat):X (Nat×Nat×Nat×Nat×Nat×E (E V)):=match cO q.tmps a with
 |some (.c (.row i A))=>match cO q.Y i with
  |some (.row e sz Q ae)=>B (i,A,e,sz,Q,ae)
  |_=>M
 |_=>M
def aqs{w:d2}{e sz Q A:Nat}{a:X mX}{c:Nat}{P:E dp}(h:w.ownsRow 0 e sz (.slice a Q c) Q P)(k:A<=Q):w.ownsRow 0 e sz (.slice a A c) A (P.take (A*sz)):=by
 have l:A*sz<=Q*sz:=j1 _ k;refine⟨by rw[hO,h.1];omega,?_⟩;rcases h.2 with⟨cR,dI⟩|⟨aW,aV,ao,ab,i,j,G,b,d,g⟩
 .cases cR;obtain rfl:A=0:=I;exact .inl ⟨rfl,rfl⟩
 .cases ab;refine .inr ⟨aW,c,ao,rfl,i,j,I,b,d,?_⟩;rw[<-g,ts,jw l]
def wR(D:Nat){i A e sz Q:Nat}{ae:E (E V)}(d:Nat)(k:E (E V))(ad:ae.take A=k)(aW:F k=d)(h:aep N.d1 D=B (i,A,e,sz,Q,ae))(an:N.pre=T)(g:TS u K n (N.tf (((N.d1.iJ (V.hv i)).f3 i (.row e sz d k)).put (B D) (.c (.dk i)))) ah):TS u K n N ah:=by
 unfold aep at h;split at h;rotate_left;cases h;rename_i ay az aX;split at h;rotate_left;cases h;rename_i aG aA au aC cN;cases h;refine vg _ (λt w r=>?_) an g;have⟨x,r⟩:=r;have⟨P,G,ag,aj⟩:=r.eV.gg i _ cN;have⟨p,aq,ar⟩:=r.tmps D _ aX;obtain⟨a,af,c,s,rfl,S⟩:=ar;have ak:af=Q:=by have⟨aB,ax,aa,_⟩:=kK G;rw[s]at aa;cases aa;rfl
 subst ak;rw[s]at G;have am:=aqs G S;have ao:A=d:=by rw[<-aW,<-ad,hO,ag,jw S]
 let ai:dY:={dn:=x.dn,dM:=λe=>if e=i then(.slice a A c,(x.dM i).2)else x.dM e};have z:ai.dM i=(.slice a A c,(x.dM i).2):=E4;have ap:ES x ai i:=⟨λ_=>rfl,λe C=>E5,λe=>by by_cases C:e=i<;>simp[ai,C]⟩;have⟨b,j⟩:=r.N0 (ai:=ai) (aE:=w) (r:=.row e sz d k) (V.hv i) cN (λ_=>rfl) (λe C=>E5) (λ_=>T) (λ_ v _=>v.qW) (λ_ a _=>a.qW) (λj v o _ al=>al.hv j ap) (fL.refl _ _) (λl y q=>by
   simp only[er,z]at q;refine .inl ?_;simp only[er,s];cases a with
   |none=>simp[n6]at q
   |some av=>exact q) (λ_ C=>lL) rfl (λj=>by
   refine⟨P.take<|A*sz,by rw[z,<-ao];exact am,aW,?_⟩;have:=aj.je 0 A;simp only[zD,v4,ad]at this;exact this.mono j)
 refine⟨ai,b.defers,b.size,b.oo,b.eV,λm v ab=>?_⟩;rw[ov]at ab;split at ab
 next aw=>cases ab;subst aw;exact⟨_,aq,E7,.inl ⟨a,A,c,E7⟩⟩
 .exact b.tmps m v ab
def jl(s:E ag)(t A:Nat)(an:ag):E ag:=s.take t++fe A an++s.drop (t+A)
def RT(u:dw)(q:cP)(y:dy):X (Nat×Nat×Nat×Nat×E (E V)×cQ×Nat×E V):=match y.op with
 |.call {callee:=.builtin .clear,args:=ae,argTypes:=j}=>match ae.toList,j.toList with
  |[a],[g]=>match u.underlying g with
   |some (.slice d)=>match u.info? d with
    |some b=>match b.zero,(dZ q a).bind (xh q)with
     |some an,B (i,e,sz,Q,ae,c,t)=>if b.size=sz/\0<sz/\an.cells.size=sz/\an.cells.all Value.oneCell'=T then B (i,e,sz,Q,ae,c,t,an.cells.toList.map V.cY)else M
     |_,_=>M
    |none=>M
   |_=>M
  |_,_=>M
 |_=>M
def ars{v:cT}{i e sz Q t:Nat}{ae:E (E V)}{c:cQ}(a:xh q v=B (i,e,sz,Q,ae,c,t)):cO q.Y i=B (.row e sz Q ae):=by
 unfold xh at a;split at a
 .split at a
  next cN=>cases a;exact cN
  .cases a
 .split at a
  next cN=>cases a;exact cN
  .cases a
 .split at a
  next cN=>cases a;exact cN
  .cases a
 .split at a
  .rename_i cN;split at a
   .cases a;exact cN
   .cases a
  .cases a
 .cases a
def asN{i e sz Q t:Nat}{f:ag->E V}(j:ag)(ar:E Nat){aa:E V}{s:E ag}{c:cQ}(z:kp ar aa=f j)(h:RT u q y=B (i,e,sz,Q,s.map f,c,t,aa)):
  qh u y q i (.row e sz Q<|s.map f) (.row e sz (F<|jl s t (F<|c.cL s) j)<|(jl s t (F<|c.cL s) j).map f) (.eu []):=by
 unfold RT at h;split at h;rotate_left;cases h;rename_i ae av cK;split at h;rotate_left;cases h;rename_i a S aO aI;have aP:ae= #[a]:=by rw[<-lF (xs:=ae),aO]
 have aJ:av= #[S]:=by rw[<-lF (xs:=av),aI]
 subst aP;subst aJ;split at h;rotate_left;cases h;rename_i aG aA;split at h;rotate_left;cases h;rename_i a8 aB;split at h;rotate_left;cases h;rename_i an a5 aD a9 a0 ba a4 a2 N d;split at h;rotate_left;cases h;rename_i ap;have⟨aU,a7,al,aH⟩:=ap;cases h;have⟨a_,aN,aj⟩:=jc.1 d;have cN:=ars aj;refine⟨cN,rfl,λ_ _ _ z=>z,λx rd ak w ai=>?_⟩;have⟨_,ay⟩:=T0 aj ai<|ai.op a _ ml aN;have⟨P,G,b,k⟩:=ay.dk;have⟨az,aV,aC,au,aL,aT,aK⟩:=ay.val;rw[cQ.map,fT]at aC au aT aK;simp only[execOp,cK,resolve,invoke,builtin,g3,hM,gn,p5,hx,jY,aC];generalize af:F (c.cL s)=g at*;by_cases aE:g=0
 .subst aE;have a3:(HF #[S] y.type #[.slice az 0 aV]).run u w=.ok (.tuple #[]) w:=by cases az<;>simp[HF,run_underlying aA]
  rw[a3];simp only[gn];refine⟨_,_,rfl,fL.refl _ _,.inr ⟨_,rfl,λK _=>⟨#[],rfl,rfl,λm o ad=>Lg⟩⟩,λK D=>?_⟩;have:jl s t 0 j=s:=by simp[jl]
  rw[this];have A:F s=Q:=rz;exact⟨P,by rw[A];exact G,dh,k.mono D⟩
 .rcases aK with aK|⟨l,aK,a6⟩
  .omega
  subst a6;have am:F (nJ an.cells g).toList=g*sz:=by simp[nJ,al]
  have aS:=atl (rd:=rd) g f j ar al z;have aR:=atk (an:=an) g λp aA=>Array.all_eq_true'.1 aH p Ll
  generalize aM:(nJ an.cells g).toList=aF at*;have a1:t*sz+g*sz<=Q*sz:=by rw[<-jZ];exact j1 _ I
  have ax:=G.1;have ah:=run_storeCells_cells (P:=u) l (t*sz) aF 0 w
   (λm aw=>by have:=G.cells aK (t*sz+m) _ (e6 I);rw[iS,gx]at this;rw[jO,this];rfl)
   (λm aw=>by
     rcases G.2 with⟨C,_⟩|⟨aW,aV,ao,aC,_,au,_⟩
     .rw[C]at aK;cases aK
     .rw[aC]at aK;cases aK;simp[sg,au]) aR
  simp only[jO]at ah;have⟨aX,aY⟩:=vS G aK (t*sz) aF I;have a3:(HF #[S] y.type #[.slice (B ⟨l,t*sz,M⟩) g aV]).run u w=.ok (.tuple #[]) (w.setCells l (t*sz) aF):=by obtain⟨aq,rfl⟩:∃aq,g=aq+1:=⟨g-1,I⟩;simp[HF,run_underlying aA,zeroValue,typeInfo,aB,N,aM,ah]
  rw[a3];simp only[gn];refine⟨_,_,rfl,aY,.inr ⟨_,rfl,λK _=>⟨#[],rfl,rfl,λm o ad=>Lg⟩⟩,λK D=>⟨_,(by
   have A:F (jl s t g j)=Q:=by unfold jl;simp only[fT,g9,hO,my,ut]at b⊢;omega
   rw[A];exact aX),dh,?_⟩⟩
  unfold jl;rw[hN,hN,am,<-jZ];refine hK.mono D ?_;have aG:hK rd sz (P.take<|t*sz) ((s.take t).map f):=by have:=k.je 0 t;simpa[nx]using this
  have aQ:hK rd sz (P.drop<|(t+g)*sz) ((s.drop<|t+g).map f):=by
   have:=k.je (t+g)<|Q-(t+g);have C:(P.drop<|(t+g)*sz).take ((Q-(t+g))*sz)=P.drop ((t+g)*sz):=k9 Ln;have aZ:((s.map f).drop<|t+g).take (Q-(t+g))=(s.drop<|t+g).map f:=by rw[up];exact k9 ahr
   rwa[C,aZ]at this
  have ab:t<=F s:=ahs;refine(aG.append aS ?_).append aQ ?_
  .simp only[fT,hO];rw[jw E6,jw ab]
  .simp only[fT,g9,hO,am,ut];rw[jw E6,jw ab,jZ]
def wN(i e sz Q t:Nat)(f:ag->E V)(a:ag)(d:E Nat){b:E V}{s:E ag}(c:cQ)(g:kp d b=f a)(h:N.fQ (RT u)=B (i,e,sz,Q,s.map f,c,t,b))(ar:N.ft n=T)(j:TS u K n (N.next ((N.d1.f3 i (.row e sz (F (jl s t (F (c.cL s)) a)) ((jl s t (F (c.cL s)) a).map f))).put N.dst (.eu []))) ah):TS u K n N ah:=LB (λl k cK=>asN a d g<|jb h cK) ar j
def V.Mr:V->X V
 |.cY v=>B<|.cY v
 |.d_ q _ n ae=>B<|.d_ q 0 n ae
 |.e1 a=>B<|.e1 a
 |_=>M
def Ms:E V->X (E V)
 |[]=>B []
 |a::s=>match a.Mr,Ms s with
  |some o,B r=>B<|o::r
  |_,_=>M
def ak9{rd:ez}{x:dY}{p:dp}{a o:V}(h:fA rd x p a)(d:a.Mr=B o):h2 rd p o:=by
 cases a<;>simp only[V.Mr,reduceCtorEq,h0]at d
 .subst d;exact h
 .subst d;exact h.1
 .subst d;exact h
def aaw:∀{s:E V} {r:E V},Ms s=B r->F s=F r/\∀(j:Nat) (a o:V),s[j]?=B a->r[j]?=B o->a.Mr=B o
 |[],r,h=>by cases h;exact⟨rfl,λj a o G=>ET⟩
 |a::s,r,h=>by
  simp only[Ms]at h;split at h
  .rename_i o i ad ay;cases h;have⟨G,g⟩:=aaw ay;refine⟨by simp[G],λj t l b d=>?_⟩;cases j with
   |zero=>cases b;cases d;exact ad
   |succ j=>exact g j t l b d
  .cases h
def FF(q:cP)(y:dy):X (E V):=match y.op with
 |.box _ a=>match dZ q a with
  |some v=>match cellsOf v with
   |some b=>Ms b
   |none=>M
  |none=>M
 |_=>M
def alf{b:E V}(h:FF q y=B b):jP u y q (.c (.e1 b)):=by
 unfold FF at h;split at h;rotate_left;cases h;rename_i D a cK;split at h;rotate_left;cases h;rename_i v d;split at h;rotate_left;cases h;rename_i l i;have⟨aP,s⟩:=aaw h;intro x rd ak w A;have ay:=B4 (A.op a _ hD d) i;unfold mSafe;simp only[execOp,cK,Instr.box,newVar,newRow,newObj,g3,hM,mZ,gn];refine⟨Ext.alloc _ _,λC t z=>?_⟩;have key:∀(m:Nat) (o:V),b[m]?=B o->∃p,(ak.eval a).cells[m]?=B p/\h2 C p o:=by intro m o ad;have aw:=(ie.1 ad).1;obtain⟨g,k⟩:∃g,l[m]?=B g:=⟨_,e6 I⟩;have⟨p,G,j⟩:=ay.2 m g k;exact⟨p,G,(ak9 j<|s m g o k ad).mono t⟩
 refine .e1 w.heap.size 0 b (λm=>((ak.eval a).cells[m]?).getD undef) (λm o ad=>?_) λm o ad=>?_
 .have⟨p,G,_⟩:=key m o ad;refine z _ _ _ (jq _) ?_;have i:=UJ (w:=w) (ak.eval a).cells D w.heap.size m rfl;rw[gx];refine Cn ?_<|Cn i ?_
  .rfl
  .rw[G];rfl
 .have⟨p,G,j⟩:=key m o ad;rwa[G]
def X4{a:E V}(h:N.fQ FF=B a)(ar:N.ft n=T)(g:TS u K n (N.ret (.c (.e1 a))) ah):TS u K n N ah:=l8 _ ar (λ_ _ cK=>alf<|jb h cK) g
def NN(u:dw)(g:g0)(A:Nat)(q:cP)(y:dy):X (E V×Int×Int):=match y.op with
 |.slice k a j hi M=>match dZ q a,u.underlying k with
  |some (.c (.e1 b)),B (.array n e)=>match u.info? e,u.underlying e,qP q 0 j,qP q n hi with
   |some d,B (.int i),B (_,t),B (_,l)=>if d.size=1/\n=A/\A<=F b/\i=g then B (b.take A,t,l)else M
   |_,_,_,_=>M
  |_,_=>M
 |_=>M
def Zw(a:g0)(A:Nat)(s:E Int)(t l j:Nat)(b:l<=A):((((jG A).map λj=>s.getD j 0).take l).drop t)[j]?=if t+j<l then B (s.getD (t+j) 0)else M:=by
 rw[j2,jd];split
 .rw[gy,tt I];rfl
 .rfl
def aaJ{g:g0}{A:Nat}{s:E Int}{aa:E Int}{t l:Int}(ax:decide (A<=140737488355328)=T)(S:g2 (lr A s) t l=B aa)(h:NN u g A q y=B (ek g A s,t,l)):jP u y q (.c (.d_ 1 0 (F aa) (aa.map (c4 g)))):=by
 have aG:=f8 ax;unfold g2 at S;split at S;rotate_left;cases S;rename_i am;cases S;have⟨aB,aE,aF⟩:=am;have ao:F (lr A s)=A:=by simp[lr]
 rw[ao]at aF;unfold NN at h;split at h;rotate_left;cases h;rename_i aK a C hi cK;split at h;rotate_left;cases h;rename_i ae k e d aA;split at h;rotate_left;cases h;rename_i aJ z aM b aN D aw aI G ai;split at h;rotate_left;cases h;rename_i ap;obtain⟨aU,rfl,aH,rfl⟩:=ap;injection h with h
 simp only[mh]at h;obtain⟨ar,rfl,rfl⟩:=h;have⟨aC,au⟩:=sN G;have⟨aL,aT⟩:=sN ai;refine iH.jC λx rd ak w ag=>?_
 have ab:=ag.op a _ hD d;have af:=T5 (u:=u) (w:=w) (ak:=ak) ag (d:=C) (hi:=hi) (λo ad=>Lm) (λo ad=>QP) Z (i:=k) (aV:=k) aC aL au aT aB aE I dd;simp only[fM,fA,ea]at ab;generalize av:ak.eval a=v at*;cases ab with
 |e1 Q K _ p ay az=>
  have aq:∀j,j<k->rd Q (K+j)=B (.int z<|s.getD j 0):=by
   intro j hi;have aD:ae[j]?=B (.cY<|.int z<|s.getD j 0):=by
    have:(ae.take k)[j]?=B (.cY<|.int z<|s.getD j 0):=by rw[ar,pa,dE hi]
    rwa[jd,dE hi]at this
   have aj:=az j _ aD;have al:=ay j _ aD;generalize N:p j=an at*;cases aj;exact al
  have aP:F (((lr k s).take D.toNat).drop b.toNat)=D.toNat-b.toNat:=by simp[lr];omega
  refine⟨.slice (if k=b.toNat then B ⟨Q,K,M⟩else B ⟨Q,K+b.toNat,M⟩) (D.toNat-b.toNat)<|k-b.toNat,?_,?_⟩
  .simp only[execOp,cK,oD,Cl,qB,run_underlying aA,av,af,sizeOf,typeInfo,program,aw,g3,hM,mZ,gn,aU,uq,iS];split<;>rfl
  .refine⟨?_,trivial⟩;by_cases N:D.toNat-b.toNat=0
   .have dI:((lr k s).take D.toNat).drop b.toNat=[]:=mw (by rw[aP];exact N);rw[dI,N];exact .nil _ _ _ wI
   .rw[dA I,aP];refine .d_ Q (K+b.toNat) _ _ 1 ((((lr k s).take D.toNat).drop b.toNat).map<|c4 z) (λj _=>.int z<|s.getD (b.toNat+j) 0) ahv I wI (λo ad=>?_) (λj o m an ad P=>?_) λj o m an ad P=>?_
    .obtain⟨ah,_,rfl⟩:=hT.1 ad;rfl
    .rw[gy]at ad;obtain⟨ah,i,rfl⟩:=gG.1 ad;rw[lr,Zw z _ _ _ _ _ I]at i;split at i
     .cases i;rcases m with _|m
      .rw[(dd:K+b.toNat+j*1+0=K+(b.toNat+j))];exact aq _ I
      .simp[c4]at P
     .cases i
    .rw[gy]at ad;obtain⟨ah,i,rfl⟩:=gG.1 ad;rw[lr,Zw z _ _ _ _ _ I]at i;split at i
     .cases i;rcases m with _|m
      .simp only[c4,rf,h0]at P;subst P;exact .cY _
      .simp[c4]at P
     .cases i
def aiy{g:g0}{a:E Int}{t l:Int}(A:Nat)(s:E Int)(d:decide (A<=140737488355328)=T)(b:g2 (lr A s) t l=B a)(h:N.fQ (NN u g A)=B (ek g A s,t,l))(ar:N.ft n=T)(i:TS u K n (N.ret (.c (.d_ 1 0 (F a) (a.map (c4 g))))) ah):TS u K n N ah:=l8 _ ar (λ_ _ cK=>aaJ d b<|jb h cK) i
def X0{g:g0}{a:E Int}{t l:Int}(A:Nat)(s:E Int)(d:decide (A<=140737488355328)=T)(b:g2 (lr A s) t l=B a)(h:P.fQ (NN u g A)=B (ek g A s,t,l))(ar:P.ft n=T)(i:TD u K n (P.ret (.c (.d_ 1 0 (F a) (a.map (c4 g))))) ah):TD u K n P ah:=nl _ ar (λ_ _ cK=>aaJ d b<|jW h cK) i
def Sp(u:dw)(A:Nat)(q:cP)(y:dy):X (E V×Int):=match y.op with
 |.indexAddr g a o=>match dZ q a,dZ q o,u.underlying g with
  |some (.c (.e1 b)),B (.c (.cY (.int _ j))),B (.array n e)=>match u.info? e with
   |some d=>if d.size=1/\n=A/\A<=F b then B (b.take A,j)else M
   |none=>M
  |_,_,_=>M
 |_=>M
def alh{g:g0}{A:Nat}{s:E Int}{j:Int}(z:decide ((0:Int)<=j/\j<(A:Int))=T)(h:Sp u A q y=B (ek g A s,j)):jP u y q (.c (.e1 [.cY (.int g (s.getD j.toNat 0))])):=by
 have⟨dI,G⟩:=f8 z;unfold Sp at h;split at h;rotate_left;cases h;rename_i af a o cK;split at h;rotate_left;cases h;rename_i k ae b Q e d ad aA;split at h;rotate_left;cases h;rename_i aa K;split at h;rotate_left;cases h;rename_i ap;obtain⟨aU,rfl,S⟩:=ap;injection h with h
 simp only[mh]at h;obtain⟨C,rfl⟩:=h;refine iH.jC λx rd ak w l=>?_
 have ab:=l.op a _ hD d;have P:=hw<|l.op o _ hD ad;simp only[fM,fA,ea]at ab;generalize D:ak.eval a=v at*;cases ab with
 |e1 i t _ p ay N=>
  have aD:k[b.toNat]?=B (.cY<|.int g<|s.getD b.toNat 0):=by
   have:(k.take Q)[b.toNat]?=B (.cY<|.int g<|s.getD b.toNat 0):=by rw[C,pa,dE I]
   rwa[jd,dE I]at this
  refine⟨.pointer<|B ⟨i,t+b.toNat,M⟩,?_,.e1 i (t+b.toNat) _ (λ_=>p b.toNat) (λm o ad=>?_) λm o ad=>?_⟩
  .simp[execOp,cK,P,D,Instr.indexAt,asIntOf,run_underlying aA,qB,dI,G,sizeOf,typeInfo,K,aU,iS]
  .rcases m with _|m
   .exact ay _ _ aD
   .simp at ad
  .rcases m with _|m
   .simp only[rf,h0]at ad;subst ad;exact N _ _ aD
   .simp at ad
def XU{g:g0}(A:Nat)(s:E Int){j:Int}(a:decide ((0:Int)<=j/\j<(A:Int))=T)(h:P.fQ (Sp u A)=B (ek g A s,j))(ar:P.ft n=T)(b:TD u K n (P.ret (.c (.e1 [.cY (.int g (s.getD j.toNat 0))]))) ah):TD u K n P ah:=nl _ ar (λ_ _ cK=>alh a<|jW h cK) b
def w1(n:Nat)(s:E Int)(t A:Nat)(a:E Int):E Int:=(jG n).map λj=>if t<=j/\j<t+min A (F a)then a.getD (j-t) 0 else s.getD j 0
def R1(u:dw)(q:cP)(y:dy):X (Nat×Nat×Nat×E V×E (E V)×cQ):=match y.op with
 |.call {callee:=.builtin .copy,args:=ae,argTypes:=p}=>match ae.toList,p.toList with
  |[a,o],[m,_]=>match u.underlying m with
   |some (.slice g)=>match u.info? g with
    |some j=>match dZ q a,(dZ q o).bind (mU q 1)with
     |some (.c (.ip i l k)),B (s,b)=>match q.lj i with
      |some d=>if j.size=1 then B (i,l,k,d,s,b)else M
      |none=>M
     |_,_=>M
    |none=>M
   |_=>M
  |_,_=>M
 |_=>M
def aje(g:g0)(n:Nat)(s:E Int)(t A:Nat)(h:t+A<=n):ek g n s=ek g t s++ek g A (s.drop t)++ek g (n-(t+A)) (s.drop (t+A)):=by
 apply tp;intro j;rw[pa,iu,p7,pb,pa,p7,pb,pa,pa];have b:∀c m,(s.drop c).getD m 0=s.getD (c+m) 0:=λc m=>by simp[ur,j2]
 by_cases G:j<t
 .rw[dE G,dE I,dE G]
 .rw[dA G,b,b];by_cases a:j-t<A
  .rw[dE I,dE a,dE a,(dd:t+(j-t)=j)]
  .rw[dA a];by_cases d:j<n
   .rw[dE d,dE I,(dd:t+A+(j-t-A)=j)]
   .rw[dA d,dA I]
def asO{i aq n t A:Nat}{g:g0}{s l:E Int}{pre post:E V}{k:cQ}(ab:decide (F pre=aq)=T)(Q:decide (t+A<=n)=T)(h:R1 u q y=B (i,aq+t,A,pre++(ek g n s++post),l.map (c4 g),k)):
  qh u y q i (.box<|pre++ek g n s++post) (.box<|pre++ek g n (w1 n s t A<|k.cL l)++post) (int W (min (F<|k.cL l) A:Nat)):=by
 have D:=f8 ab;have S:=f8 Q;have N:=aje g n s t A S;have ag:FV u (aq+t) A q y=B (i,pre++ek g t s,ek g A<|s.drop t,ek g (n-(t+A)) (s.drop<|t+A)++post,l.map<|c4 g,k):=by
  unfold R1 at h;unfold FV;split at h;rotate_left;cases h;rename_i ae ap cK;split at h;rotate_left;cases h;rename_i a o an ao ah af;split at h;rotate_left;cases h;rename_i aG aA;split at h;rotate_left;cases h;rename_i al aa;split at h;rotate_left;cases h;rename_i ak am b ar ai d ad;split at h;rotate_left;cases h;rename_i aj cN;split at h;rotate_left;cases h;rename_i aU;injection h with h
  simp only[mh]at h;obtain⟨rfl,rfl,rfl,rfl,rfl,rfl⟩:=h;simp only[cK,ah,af,aA,aa,d,ad,cN];have av:pre++(ek g n s++post)=(pre++ek g t s)++(ek g b (s.drop t)++(ek g (n-(t+b)) (s.drop<|t+b)++post)):=by rw[N];simp only[iu]
  have P:F (pre++ek g t s)=aq+t:=by rw[g9,pb,D]
  rw[av];have G:((pre++ek g t s)++(ek g b (s.drop t)++(ek g (n-(t+b)) (s.drop<|t+b)++post))).take (aq+t)=pre++ek g t s:=by rw[<-P];exact rg
  have p:((pre++ek g t s)++(ek g b (s.drop t)++(ek g (n-(t+b)) (s.drop<|t+b)++post))).drop (aq+t)=ek g b (s.drop t)++(ek g (n-(t+b)) (s.drop<|t+b)++post):=by rw[<-P];exact zG
  have x:(ek g b (s.drop t)++(ek g (n-(t+b)) (s.drop<|t+b)++post)).take b=ek g b (s.drop t):=by have:=rg (l₁:=ek g b<|s.drop t) (l₂:=ek g (n-(t+b)) (s.drop<|t+b)++post);rwa[pb]at this
  have z:((pre++ek g t s)++(ek g b (s.drop t)++(ek g (n-(t+b)) (s.drop<|t+b)++post))).drop (aq+t+b)=ek g (n-(t+b)) (s.drop<|t+b)++post:=by rw[<-ri,p];have:=zG (l₁:=ek g b<|s.drop t) (l₂:=ek g (n-(t+b)) (s.drop<|t+b)++post);rwa[pb]at this
  rw[G,p,x,z,dE ⟨aU,trivial,trivial,by simp only[g9,pb,D];omega⟩]
 have aA:=afe (aq:=aq+t) (by rw[g9,pb,D];exact decide_eq_true rfl) ag;have aG:pre++ek g t s++ek g A (s.drop t)++(ek g (n-(t+A)) (s.drop<|t+A)++post)=pre++ek g n s++post:=by rw[N];simp only[iu]
 have aD:pre++ek g t s++ek g A (n0 A (s.drop t)<|k.cL l)++(ek g (n-(t+A)) (s.drop<|t+A)++post)=pre++ek g n (w1 n s t A<|k.cL l)++post:=by
  have C:∀j,j<n->(w1 n s t A<|k.cL l).getD j 0=if t<=j/\j<t+min A (F<|k.cL l)then(k.cL l).getD (j-t) 0 else s.getD j 0:=by intro j hi;unfold w1;rw[ur,gy,tt hi];rfl
  have:ek g n (w1 n s t A<|k.cL l)=ek g t s++ek g A (n0 A (s.drop t)<|k.cL l)++ek g (n-(t+A)) (s.drop<|t+A):=by
   apply tp;intro j;rw[pa,iu,p7,pb,pa,p7,pb,pa,pa];have K:∀c m,(s.drop c).getD m 0=s.getD (c+m) 0:=λc m=>by simp[ur,j2]
   by_cases G:j<t
   .rw[dE G,dE I,dE G,C j I,dA I]
   .rw[dA G,K];by_cases p:j-t<A
    .rw[dE I,dE p,dE p,Ma _ _ _ _ p,K,C j I,(dd:t+(j-t)=j)];by_cases z:j-t<F (k.cL l)
     .rw[dE z,dE I]
     .rw[dA z,dA I]
    .rw[dA p];by_cases x:j<n
     .rw[dE x,dE I,C j x,dA I,(dd:t+A+(j-t-A)=j)]
     .rw[dA x,dA I]
  rw[this];simp only[iu]
 rwa[aG,aD]at aA
def ahY{g:g0}(i aq a t A:Nat)(s d:E Int)(b:cQ){pre post:E V}(k:decide (F pre=aq)=T)(j:decide (t+A<=a)=T)(h:P.fQ (R1 u)=B (i,aq+t,A,pre++(ek g a s++post),d.map (c4 g),b))(ar:P.ft n=T)
  (l:TD u K n (P.push ⟨P.need,P.dst,int W (min (F<|b.cL d) A:Nat),B (i,.box<|pre++ek g a (w1 a s t A<|b.cL d)++post),Z,M,[]⟩) ah):TD u K n P ah:=
 yG (λo m cK=>asO k j<|jW h cK) ar l
def RX{u:dw}{f:gk}{a:n5}{c:k7}{args:E cT}{b sz Q d:Nat}{l:E (E V)}{r:cT}(k:E (E Nat))(n j i:Nat)(g:E V)(o:u.funcs[f]?=B a)(m:a.body=B c)(cR:a.ntmps=n)(cN:decide (F args<=n/\n<=2000000)=T)(hi:args[j]?=B (.agg g))(q:g[i]?=B (.d_ sz 1000003 Q l))
  (ax:∀K,TS u K n (.mk [.code c] .normal ⟨lV 0 args++F5 sz Q l,[(1000001,.fw b sz Q)]⟩)<|Hc u a k b sz Q r d):sj u f args b sz Q r d:=
 ZX k n o m cR cN (λ_ _ _ h=>have⟨_,_,_,_,lD⟩:=h j _ hi;have⟨p,_,C⟩:=lD.2 i _ q;⟨p,C⟩) ax
def GF(q:cP)(l m i e sz:Nat):X cP:=match q.lj l with
 |some a=>match a[m]? with
  |some (.cY (.slice M 0 0))=>if decide (i<1000000)&&q.sX i M&&l !=i then B ((q.f3 i<|.row e sz 0 []).f3 l<|.box<|a.set m<|.dk i)else M
  |_=>M
 |none=>M
def R.GF{t:Act}{w:d2}{q ao:cP}(h:R K n t w q){l m i e sz:Nat}(aj:GF q l m i e sz=B ao):R K n t w ao:=by
 have⟨x,h⟩:=h;unfold Go.Proofs.YtddmdeaegbfhaaaGreat.GF at aj;split at aj
 .rename_i b cN;split at aj
  .rename_i aw;split at aj
   .rename_i ap;simp only[fz,i6,bne_iff_ne]at ap;cases aj;have G:=h.abK i e sz ap.1.1<|vP ap.1.2;refine⟨_,G.G_ (l:=l) (d:=b) Xp dh λj a o d ad p aA=>?_⟩;rw[sa]at ad;split at ad
    .rename_i g;subst g;split at ad
     .cases ad;rw[aw]at d;cases d;have:p=.slice M 0 0:=hw (x:=x.iP i (.slice M 0 0,undef) (0,0)) aA;subst this;exact⟨rA,.inl ⟨M,0,0,rA⟩⟩
     .cases ad
    .rw[d]at ad;cases ad;exact aA
   .cases aj
  .cases aj
 .cases aj
def oh(l m i e sz:Nat)(a:N.pre=T)(g:TS u K n (N.ra (GF N.d1 l m i e sz)) ah):TS u K n N ah:=ve (λ_ _ _ aj r=>r.GF aj) a g
def dT.adF:dT->dT
 |.mk (.code c::eU) .normal q=>.mk (.code c:: .ops #[] []::eU) .normal q
 |N=>N
def nU(g:TS u K n N.adF ah):TS u K n N ah:=by
 unfold dT.adF at g;split at g
 .intro t w r;exact wp_mono (g t w r) λe b aE ⟨ao,a,C⟩=>by
   cases e
   case normal=>exact C b aE a
   all_goals exact⟨ao,a,C⟩
 .exact g
def hl{ag:Type}[BEq ag][LawfulBEq ag]{t l:ag}(h:¬t=l):(t==l)=Z:=qe
def dz{z:Prop}[Decidable z](h:z):decide z=T:=qe
def dr{z:Prop}[Decidable z](h:¬z):decide z=Z:=qe
def fx{a:Int}(dI: -9223372036854775808<=a)(G:a<=9223372036854775807):U W a=a:=by simp[U,oF,rj];omega
def ju{a:Int}(dI:0<=a)(G:a<18446744073709551616):U cZ a=a:=by simp[U,oF,rj];omega
def xz{a:Int}(dI:0<=a)(G:a<4294967296):U e9 a=a:=by simp[U,oF,rj];omega
def xy{a:Int}(dI:0<=a)(G:a<65536):U fW a=a:=by simp[U,oF,rj];omega
def N9{a:Int}(dI:0<=a)(G:a<256):U cH a=a:=by simp[U,oF,rj];omega
def md(g:Nat)(h:g<9223372036854775807):U W ((g:Int)+1)=((g+1:Nat):Int):=by rw[fx I I];rfl
def afF(a:Int):U cH a=a%256:=by simp[U,oF,rj]
def Ce(a:Int):U fW a=a%65536:=by simp[U,oF,rj]
def uk(a:Int):U e9 a=a%4294967296:=by simp[U,oF,rj]
def xx(a:Int):U cZ a=a%18446744073709551616:=by simp[U,oF,rj]
def ate(a:Int):0<=U cH a/\U cH a<=255:=Xv
variable{s:Type}{i:s->X (s⊕S)}
def mr{q:s}{r:S}(h:i q=B (.inr r)):dq i q=B r:=by rw[abq,h]
def pX{q ao:s}(h:i q=B (.inl ao)):dq i q=dq i ao:=by rw[abq,h]
def vJ(y:s->Prop)(ah:S->Prop)(A:s->Nat)(aj:∀q,y q->(∃ao,i q=B (.inl ao)/\y ao/\A ao<A q)\/(∃r,i q=B (.inr r)/\ah r))(q:s)(h:y q):∃r,dq i q=B r/\ah r:=by
 induction cR:A q using Cf generalizing q with
 |ind n d=>
  subst cR;rcases aj q h with⟨ao,G,a,b⟩|⟨r,G,a⟩
  .have⟨r,ay,ap⟩:=d (A ao) b ao a rfl;exact⟨r,by rw[pX G];exact ay,ap⟩
  .exact⟨r,mr G,a⟩
theorem abr(a:Nat->s)(n:Nat)(h:∀g,g<n->i (a g)=B (.inl (a (g+1)))):dq i (a 0)=dq i (a n):=by
 induction n with
 |zero=>rfl
 |succ n b=>rw[b ef,pX (h n I)]
def ow(a:Nat->s)(n:Nat){r:S}(h:∀g,g<n->i (a g)=B (.inl (a (g+1))))(b:i (a n)=B (.inr r)):dq i (a 0)=B r:=by rw[abr a n h,mr b]
theorem amk(a:Nat->s)(n:Nat)(z:Nat->Bool)(k:Nat->S){l:S}(G:∀g,g<n->z g=T->i (a g)=B (.inl (a (g+1))))(o:∀g,g<n->z g=Z->i (a g)=B (.inr (k g)))(p:i (a n)=B (.inr l)):
  (∃g,g<n/\z g=Z/\(∀m,m<g->z m=T)/\dq i (a 0)=B (k g))\/((∀g,g<n->z g=T)/\dq i (a 0)=B l):=by
 by_cases d:∀g,g<n->z g=T
 .exact .inr ⟨d,ow a n (λg af=>G g af<|d g af) p⟩
 .have D:∃g,g<n/\z g=Z:=by
   apply Hx;intro A;apply d;intro g af;cases b:z g with
   |true=>rfl
   |false=>exact absurd ⟨g,af,b⟩ A
  have:∃g,(g<n/\z g=Z)/\∀m,m<g->¬(m<n/\z m=Z):=by
   have⟨g,af⟩:=D;induction g using Cf with
   |ind g K=>
    by_cases aw:∃m,m<g/\m<n/\z m=Z
    .have⟨m,t,u⟩:=aw;exact K m t u
    .exact⟨g,af,λm x q=>aw ⟨m,x,q⟩⟩
  have⟨g,⟨af,b⟩,y⟩:=this;have j:∀m,m<g->z m=T:=by
   intro m aw;cases C:z m with
   |true=>rfl
   |false=>exact absurd ⟨I,C⟩<|y m aw
  refine .inl ⟨g,af,b,j,?_⟩;rw[abr a g (λm aw=>G m I<|j m aw),mr<|o g af b]
def Mz{ag:Type}(s:E ag)(g:Nat):di s (g:Int)=s[g]?:=by simp[di]
def et{ag:Type}{s:E ag}{g:Nat}(h:g<F s):di s (g:Int)=B s[g]:=by rw[Mz];exact e6 h
theorem F8{ag:Type}{s:E ag}{j:Int}(dI:0<=j)(G:j<F s):di s j=B (s[j.toNat]'I):=by unfold di;rw[dE dI];exact e6 _
theorem i8{ag:Type}{d:Nat}{a b:E ag}(h:(F a+F b)*d<=140737488355328)(aF:F a+F b<=140737488355328):ej d a b=B (a++b):=by unfold ej;rw[dE dd]
theorem pr{ag:Type}{s:E ag}{t l:Int}(dI:0<=t)(G:t<=l)(a:l<=F s):g2 s t l=B ((s.take l.toNat).drop t.toNat):=by unfold g2;rw[dE dd]
theorem Zv{n:Nat}{s:E Int}(h:F s=n):lr n s=s:=by
 apply tp;intro j;unfold lr;rcases la j n with hi|hi
 .rw[gy,tt hi,e6 I];simp[ur,e6 (dd:j<F s)]
 .rw[pv cU,pv I]
def ajd{n:Nat}{t l:E Int}:nn n t l=T↔∀j,j<n->t.getD j 0=l.getD j 0:=by
 unfold nn;have:∀s:E Nat,(s.foldr (λj r=>(t.getD j 0==l.getD j 0)&&r) T)=T↔∀j∈s,t.getD j 0=l.getD j 0:=by
  intro s;induction s with
  |nil=>simp
  |cons a s b=>simp only[List.foldr_cons,fz,beq_iff_eq,b,l3,forall_eq_or_imp]
 rw[this];simp
def alb{s:E Int}{j:Nat}(h:j<F s):s.getD j 0=s[j]:=by simp[ur,e6 h]
theorem alc{z:Int->Prop}{s:E Int}(h:∀an∈s,z an)(dI:z 0)(j:Nat):z (s.getD j 0):=by
 rcases la j (F s)with hi|hi
 .rw[alb hi];exact h _ cU
 .rw[ur,pv hi];exact dI
def dk:ownKnob h6.godebug=M:=by kernel_rfl
def al9:laidOutB h6=T:=by kernel_rfl
def ae8{H:Type}{o:f1×dp->H}{u:dw}(cN:laidOutB u=T){de m:d2}(p:Below de.heap.size de m):
  ∀{b:E f1} {k:E dp} {d:E (DataW H)} {g:E MemPlace},b.all (λj=>u.readableRec j&&decide (j<u.types.size))=T->
   U_ o u de 0 (λ_=>T) T b k d g->U_ o u m 0 (λl=>decide (l<de.heap.size)) T b k d g
 |[],_,_,_,_,h=>by obtain⟨rfl,rfl,rfl⟩:=trodAll_nil h;exact trodAll_mk0
 |j::b,k,d,g,ay,h=>by
  obtain⟨v,x,i,t,z,C,rfl,rfl,rfl,G,q⟩:=trodAll_cons h;simp only[v1,fz,i6]at ay;have lt:∀a∈z,a.block<de.heap.size:=by have⟨A,s⟩:=G;exact DataW.trod_lt A _ _ _ s
  exact trodAll_cons_mk (Below.trod cN ay.1.1 ay.1.2 G p lt)<|ae8 cN p ay.2 q
def q9(w:d2):ez:=λl y=>w.cell? ⟨l,y,M⟩
def Mh:dY:=⟨λ_=>(0,0),λ_=>(.slice M 0 0,.slice M 0 0)⟩
def H0(rd:ez)(x:dY):E dp->E cT->Prop
 |[],[]=>True
 |p::P,a::ae=>fM rd x p a/\H0 rd x P ae
 |_,_=>False
def H0.jT{rd:ez}{x:dY}:∀{P:E dp} {ae:E cT},H0 rd x P ae->F P=F ae/\∀(j:Nat) (a:cT),ae[j]?=B a->∃p,P[j]?=B p/\fM rd x p a
 |[],[],_=>⟨rfl,λj a h=>by simp at h⟩
 |p::P,o::ae,h=>by
  have⟨G,b⟩:=h;have⟨aI,g⟩:=b.jT;refine⟨QR,λj a d=>?_⟩;rcases j with _|j
  .cases d;exact⟨p,rfl,G⟩
  .exact g j a Xw
def ako{u:dw}{f:gk}{args:E cT}(h:ih u f args [] (.c (.cY (.bool T))) []){de:d2}{P:E dp}(q:H0 (q9 de) Mh P args):
  Hy u f P.toArray de λe aE=>e=.returned (.bool T)/\Ext de aE:=by
 have⟨G,o⟩:=q.jT;have g:∀i (a:eD),cO ([]:fK) i=B a->False:=λi a d=>u5
 have m:∀x l y,¬h7 x ([]:fK) l y:=by rintro x l y ⟨i,r,b,_⟩;exact g _ _ b
 refine(h (q9 de) Mh de P.toArray (λl y v ab=>ab) wF (λj a d=>by simpa using o j a d) (λi a d=>(g i a d).elim) (λi z r A l y _ b=>(g _ _ b).elim) λl y d=>(m _ _ _ d).elim).mono ?_;rintro e aE ⟨p,ai,rfl,af,_,_,_,_,aA⟩;have k:Ext de aE:=(af.kN λl y a=>m _ _ _ a).ext;refine⟨?_,k⟩;have:=(aA (q9 aE) (by intro l y v ab;obtain⟨x,rfl⟩:=k;have s:=rk _ _ ab;unfold q9;rw[akc _ _ _ _ _ s];exact ab) (λl y p _ _ t=>t)).1
 cases this;rfl
def vZ(g:g0)(n:Int):Prop:=(Lit.int g n).wf=T
def Fb(rd:ez)(a:E dp)(aq n:Nat)(s:E V):Prop:=F s=n/\∀(m:Nat) (o:V),s[m]?=B o->∃p,a[aq+m]?=B p/\h2 rd p o
def Qw(u:dw)(i:f1){ag:Type}(f:ag->E V)(j:ag->Prop):Prop:=∀(H:Type) (d:f1×dp->H) (de:d2) (g:Nat) (b:E dp) (a:DataW H×E MemPlace),DataW.trod d u de 0 (λ_=>T) T g i b=B a->∃t:ag,Fb (q9 de) b 0 (F b) (f t)/\j t
def Tz{u:dw}{b:f1}{g:g0}(ax:u.underlying b=B (.int g)):Qw u b (c4 g) (vZ g):=by
 intro H j de k i a h;obtain⟨n,rfl,_,d⟩:=DataW.trod_int ax h;refine⟨n,⟨rfl,λm o ad=>?_⟩,d⟩;rcases m with _|m
 .simp only[c4,rf,h0]at ad;subst ad;exact⟨_,rfl,.cY _⟩
 .simp[c4]at ad
def fS(s:E Int):Prop:=∀an∈s,0<=an/\an<=255
def fS.append{t l:E Int}(a:fS t)(b:fS l):fS (t++l):=λan h=>(gq.1 h).elim (a an) (b an)
def fS.jT{s:E Int}(h:fS s){j:Nat}(hi:j<F s):0<=s[j]/\s[j]<=255:=h _ (fi hi)
def fS.take{s:E Int}(h:fS s)(n:Nat):fS (s.take n):=λan N=>h an (tr N)
def fS.drop{s:E Int}(h:fS s)(n:Nat):fS (s.drop n):=λan N=>h an (uv N)
def fS.set{s:E Int}(h:fS s)(n:Nat){v:Int}(ab:0<=v/\v<=255):fS (s.set n v):=λan N=>(List.mem_or_eq_of_mem_set N).elim (h an) (λe=>e▸ab)
theorem fS.getD{s:E Int}(h:fS s)(n:Nat):0<=s.getD n 0/\s.getD n 0<=255:=alc (z:=λan=>0<=an/\an<=255) h I n
theorem am5{s:E Int}(h:∀an∈s,vZ cH an):fS s:=λan N=>by have:=h an N;simp[vZ,Lit.wf,IntKind.min,IntKind.max,oF,rj]at this;omega
theorem asF{t l:Int}(a:0<=t/\t<=255)(b:0<=l/\l<=255)(h:t.toNat.toUInt8=l.toNat.toUInt8):t=l:=by
 have aG:(t.toNat.toUInt8).toNat=t.toNat:=by simp[Nat.toUInt8];omega
 have aD:(l.toNat.toUInt8).toNat=l.toNat:=by simp[Nat.toUInt8];omega
 rw[h]at aG;omega
def ae9:∀{t l:E Int},fS t->fS l->mu t=mu l->t=l
 |[],[],_,_,_=>rfl
 |[],_::_,_,_,h=>by simp[mu]at h
 |_::_,[],_,_,h=>by simp[mu]at h
 |a::q,o::g,b,d,h=>by simp only[mu,hx,tm]at h;rw[asF (b a dh) (d o dh) h.1,ae9 (λan N=>b an (by simp[N])) (λan N=>d an (by simp[N])) h.2]
theorem aa4{a o:Int}(dI:0<=o)(G:o<64):gh cZ a o=a/2^o.toNat:=by unfold gh;rw[show min o.toNat cZ.bits=o.toNat by simp[oF];omega];exact Int.fdiv_eq_ediv_of_nonneg _ (Vb I)
theorem Sx{a o:Int}(dI:0<=o)(G:o<64):ji cZ a o=(a*2^o.toNat)%18446744073709551616:=by unfold ji;rw[show min o.toNat cZ.bits=o.toNat by simp[oF];omega,xx]
def ZK{v:Int}{m:Int}(dI:0<=m)(G:m<64):U cH (gh cZ v m)=v/2^m.toNat%256:=by rw[aa4 dI G,afF]
theorem alQ{a o:Int}(j:Nat)(dI:0<=a)(G:a<2^j)(b:0<=o)(d:a+o*2^j<18446744073709551616):jD cZ a (o*2^j)=a+o*2^j:=by
 obtain⟨t,rfl⟩:=Vc dI;obtain⟨l,rfl⟩:=Vc b;have Y:((l:Int)*2^j)=((l*2^j:Nat):Int):=by rw[Int.natCast_mul,Int.natCast_pow];rfl
 have g:t<2^j:=by have e:((2:Int)^j)=((2^j:Nat):Int):=Xx;rw[e]at G;omega
 rw[Y]at d⊢;have i:t+l*2^j<18446744073709551616:=I;unfold jD;have aG:(n8 cZ.bits (t:Int)).toNat=t:=by rw[Vd];simp only[oF];omega
 have aD:(n8 cZ.bits ((l*2^j:Nat):Int)).toNat=l*2^j:=by rw[Vd];simp only[oF];omega
 rw[BitVec.toNat_or,aG,aD,Nat.or_comm,show l*2^j|||t=2^j*l+t by rw[Nat.two_pow_add_eq_or_of_lt g,re]];rw[xx,re];omega
def d4(v:Int)(n:Nat):E Int:=(jG n).map λj=>v/2^(8*(n-1-j))%256
def gY(v:Int)(n:Nat):F (d4 v n)=n:=by simp[d4]
theorem ko(v:Int)(n:Nat):fS (d4 v n):=λan N=>by obtain⟨j,_,rfl⟩:=hT.1 N;omega
def FD{v:Int}{n j:Nat}(h:j<n):(d4 v n)[j]?=B (v/2^(8*(n-1-j))%256):=by unfold d4;rw[gy,tt h];rfl
def ta{ag:Type}{s:E ag}{g:Nat}{a:ag}(h:s[g]?=B a):s.take (g+1)=s.take g++[a]:=by rw[List.take_add_one,h];rfl
def Hi{ag:Type}(t l:E ag)(a o:ag){g:Nat}(h:g=F t):(t++a::l).set g o=t++o::l:=by subst h;rw[List.set_append_right _ _ (jq _),v2];rfl
def kW:E Int->Int:=λs=>s.foldl (λv c=>v*256+c) 0
def ZD(s:E Int)(a:Int):kW (s++[a])=kW s*256+a:=by simp[kW]
theorem ZC:∀(s:E Int) (v:Int),fS s->0<=v->0<=s.foldl (λv c=>v*256+c) v/\s.foldl (λv c=>v*256+c) v<(v+1)*256^F s
 |[],v,_,h=>fv
 |a::s,v,h,ab=>by
  have G:=h a dh;have⟨t,l⟩:=ZC s (v*256+a) (λan N=>h an (by simp[N])) I;refine⟨t,Int.lt_of_lt_of_le l ?_⟩;have e:(v+1)*(256:Int)^F (a::s)=(v+1)*256*256^F s:=by rw[l6,Int.pow_succ,Int.mul_comm ((256:Int)^F s) 256,Int.mul_assoc]
  rw[e];exact Int.mul_le_mul_of_nonneg_right I<|Vb I
theorem ajT{s:E Int}(h:fS s):0<=kW s/\kW s<256^F s:=by have:=ZC s 0 h I;simpa[kW]using this
def V.pZ:V->Bool
 |.cY _=>T
 |.dk _=>T
 |.row _ _=>T
 |_=>Z
def abN{rd b:ez}{x:dY}{v:dp}{a:V}(d:a.pZ=T)(h:fA rd x v a):fA b x v a:=by
 cases a<;>simp only[V.pZ,j0]at d
 .have:=hw (x:=x) h;subst this;exact .cY _
 .exact h
 .exact h
def eD.pZ:eD->Prop
 |.box b=>b.all V.pZ=T
 |.row _ _ _ ae=>∀a∈ae,a.all V.jh=T
 |.fw _ _ _=>True
 |.dR _=>True
 |.g7 _=>False
def zf:fK->Prop
 |[]=>True
 |(_,r)::s=>r.pZ/\zf s
def abM:∀{h:fK} {i:Nat} {r:eD},zf h->cO h i=B r->r.pZ
 |[],_,_,_,d=>u5
 |(g,a)::s,i,r,b,d=>by
  simp only[cO]at d;split at d
  .cases d;exact b.1
  .exact abM b.2 d
def BL{ag:Type}{e q n:Nat}{f:ag->E V}(s:E ag)(b:∀a,(f a).all V.jh=T):(eD.row e q n (s.map f)).pZ:=λa d=>by obtain⟨o,_,rfl⟩:=hT.1 d;exact b o
def h2.jh{rd b:ez}{v:dp}{a:V}(d:a.jh=T)(h:h2 rd v a):h2 b v a:=by cases a<;>simp only[V.jh,j0]at d;cases h;exact .cY _
theorem iv.pZ{rd k:ez}{x:dY}{w:d2}{i:Nat}{r:eD}(ay:r.pZ)(h:iv rd x w i r):iv k x w i r:=by
 cases r with
 |box l=>intro m o ad;have⟨p,G,g,b⟩:=h m o ad;exact⟨p,G,g,abN (fp.1 ay o ef) b⟩
 |row e q n ae=>have⟨P,G,g,b⟩:=h;refine⟨P,G,g,b.1,λj a m o d ad=>?_⟩;have⟨p,aC,au⟩:=b.2 j a m o d ad;exact⟨p,aC,au.jh<|fp.1 (ay a<|lp d) o<|lp ad⟩
 |fw e q n=>exact h
 |dR L=>exact h
 |g7 ak=>exact ay.elim
def t3(q:cP):V->V
 |.dk i=>match cO q.Y i with
  |some (.row _ sz n ae)=>.d_ sz 0 n ae
  |_=>.dk i
 |a=>a
def vA(q:cP)(b:E Nat):cT->X cT
 |.agg d=>B<|tX b<|.agg<|d.map<|t3 q
 |.c a=>vz q b<|.c a
 |.eu g=>vz q b<|.eu g
def ak6{q:cP}{x:dY}{rd:ez}{t:Act}{w:d2}{y:dy}(ab:lJ x rd t w q y){p:dp}{a:V}(aA:fA rd x p a):fA (vm w) x p (t3 q a):=by
 have b:fA (vm w) x p a:=aA.mono λl y v=>ab.oy l y v
 unfold t3;split
 .rename_i i;split
  next e sz n ae cN=>have g:=r3 (sz:=sz) (v:=.c<|.dk i) (ae:=ae) (c:=.c_) (by simp[mU,cN]) ab aA;have⟨P,_,d,_⟩:=ab.gg i _ cN;rw[<-d];exact⟨g.Sw ab.oy,trivial⟩
  .exact b
 .exact b
def ak4{q:cP}{b:E Nat}{v ak:cT}(h:vA q b v=B ak){x:dY}{rd:ez}{t:Act}{w:d2}{y:dy}(ab:lJ x rd t w q y){p:dp}(aA:fM rd x p v):fM (vm w) x p ak:=by
 cases v with
 |c a=>simp only[vA]at h;exact Sh h ab aA
 |eu d=>simp only[vA]at h;exact Sh h ab aA
 |agg i=>simp only[vA,h0]at h;subst h;refine tY b ?_;have⟨d,aC,au⟩:=aA;exact⟨d,aC,j3.imp (z:=λ_=>T) (λv a _ g=>ak6 ab g) dh au⟩
def sS(q:cP):E (E Nat)->E cT->X (E cT)
 |_,[]=>B []
 |a,v::d=>match vA q (a.headD []) v,sS q a.tail d with
  |some ak,B b=>B<|ak::b
  |_,_=>M
def aas{q:cP}:∀(g:E (E Nat)) (b a:E cT),sS q g b=B a->F b=F a/\∀(j:Nat) (v ak:cT),b[j]?=B v->a[j]?=B ak->∃o,vA q o v=B ak
 |_,[],a,h=>by cases h;exact⟨rfl,λj v ak G=>ET⟩
 |g,v::b,a,h=>by
  simp only[sS]at h;split at h
  .rename_i ak k G l;cases h;have⟨aI,m⟩:=aas g.tail b k l;refine⟨QR,λj p i ab d=>?_⟩;cases j with
   |zero=>simp at ab d;subst ab;subst d;exact⟨_,G⟩
   |succ j=>simp at ab d;exact m j p i ab d
  .cases h
def dT.FH(N:dT)(a:E (E Nat)):X (gk×E cT):=match N.op with
 |some (_,y)=>match lh N.d1 y with
  |some (f,b)=>(sS N.d1 a b).map λak=>(f,ak)
  |none=>M
 |none=>M
variable{s:E dy}
theorem XH{f:gk}{ar args:E cT}{aF:fK}{r:cT}(aV:E (E Nat))(b:E (Nat×Nat))(bb:hF ops y q=B T)(a7:jB n y=T)(a4:lh q y=B (f,ar))(aG:iz u f=T)
  (a3:sS q aV ar=B args)
  (aO:∀z∈b,(((((cO aF z.2).isSome=T/\decide (z.1<1000000)=T)/\decide (fZ b z.2=z.1)=T)/\decide (cO b z.1=B z.2)=T)/\(cO q.Y z.1).isNone=T)/\decide (z.2<1000000)=T)
  (aP:∀s v,cO q.tmps s=B v->(B s==y.dst||v.eY (V.fn λi=>(cO b i).isNone))=T)
  (bh:∀i r,cO q.Y i=B r->r.eY (V.fn λi=>(cO b i).isNone)=T)
  (bj:r.eY (V.fn<|ms b)=T)(bk:∀C∈aF,(C.1==1000000||C.2.eY (V.fn<|ms b))=T)(ay:r.eY V.pZ=T)(bc:zf aF)(Y:ih u f args [] r aF):km u K n ops y q (q.after aF r b M y.dst):=by
 have a2:(b.all λz=>(cO aF z.2).isSome)=T:=fp.2 λz Y=>(aO z Y).1.1.1.1.1
 have ae:∀i e,cO b i=B e->i<1000000/\fZ b e=i/\cO q.Y i=M/\e<1000000:=by intro i e aa;have aq:=aO _ (iM aa);exact⟨f8 aq.1.1.1.1.2,f8 aq.1.1.1.2,by simpa using aq.1.2,f8 aq.2⟩
 refine nj bb λx t w ak bt ah a1=>?_
 have aU:=ak.kM.o y;have⟨P,G,aw,aY⟩:=vp a4 aG aU;have⟨br,bs⟩:=aas aV ar args a3;have a5:=Y (vm w) x w P (λ_ _ _ h=>h) (by rw[G,br]) (λj o ad=>by
  have hi:j<F ar:=by have:=(ie.1 ad).1;omega
  have⟨p,aC,au⟩:=aw j _ (e6 hi);have⟨bw,aL⟩:=bs j _ o (e6 hi) ad;exact⟨p,aC,ak4 aL aU au⟩) (λi a d=>u5) (λi al a aB l y _ d=>u5) (λl y d=>(rO d).elim)
 unfold ln;rw[aY];simp only[ly];refine a5.mono λe aE ap=>?_
 obtain⟨p,ai,rfl,a8,bv,bg,a_,bl,bm⟩:=ap;simp only;have an:Ext w aE:=(a8.kN λl y a=>(rO a)).ext
 let aN:=x.BI ai b
 let N:=t7 aF (fZ b) b q.Y;have aW:∀i,cO N i=match cO b i with
  |some e=>(cO aF e).map<|eD.map<|V.fD<|fZ b
  |none=>cO q.Y i:=λi=>SS aF _ q.Y i b a2
 have aA:∀e,ms b e=T->aN.dn (fZ b e)=ai.dn e/\aN.dM (fZ b e)=ai.dM e:=by intro e an;simp only[ms,beq_iff_eq]at an;simp only[aN,dY.BI,an,and_self]
 have aS:∀i e,cO b i=B e->ms b e=T:=by intro i e aa;simp only[ms,beq_iff_eq,(ae i e aa).2.1,aa]
 let z:Nat->Bool:=λi=>(cO b i).isNone
 have az:∀i,z i=T->aN.dn i=x.dn i/\aN.dM i=x.dM i:=by intro i k;simp only[z,zz]at k;simp only[aN,dY.BI,k,and_self]
 let s:Nat->Bool:=λi=>(cO b i).isSome
 have aT:∀i,s i=Z->cO b i=M:=by intro i k;simpa[s]using k
 have aK:fL w (λl y=>∃i r,s i=T/\cO q.Y i=B r/\er x i r l y) aE:=a8.kN λl y d=>(rO d).elim
 have ao:∀i e a,cO b i=B e->er aN i (eD.map (V.fD<|fZ b) a)=er ai e a:=by intro i e a aa;rw[pg];have:=aA e<|aS i e aa;rw[(ae i e aa).2.1]at this;funext l aj;cases a<;>simp only[er,this.1,this.2]
 have af:∀i r,s i=T->cO N i=B r->∃e a,cO b i=B e/\cO aF e=B a/\r=a.map (V.fD<|fZ b):=by intro i r k ay;rw[aW]at ay;have⟨e,aQ⟩:=lb.1 k;rw[aQ]at ay;obtain⟨a,d,rfl⟩:=gG.1 ay;exact⟨e,a,aQ,d,rfl⟩
 have aI:∀i r l y,s i=T->cO N i=B r->er aN i r l y->(∃e eM,s e=T/\cO q.Y e=B eM/\er x e eM l y)\/w.heap.size<=l:=by
  intro i r l aj k ay Q;obtain⟨e,a,m,D,rfl⟩:=af i r k ay;rw[ao i e a m]at Q;rcases bg l aj ⟨e,a,D,Q⟩with S|S
  .exact(rO S).elim
  .exact .inr S
 have ax:∀i A,s i=Z->cO N i=B A->cO q.Y i=B A:=by intro i A k ay;rwa[aW,aT i k]at ay
 have aH:∀i r,s i=Z->cO q.Y i=B r->aN.dn i=x.dn i/\aN.dM i=x.dM i:=λi r k _=>az i (by simp[z,aT i k])
 have aM:=ui (K:=K) (x:=x) (ai:=aN) (w:=w) (aE:=aE) (h:=q.Y) (aF:=N) ak.eV s aH (λi A m D=>⟨A,λo=>o,ax i A m D,A.map_id.symm⟩) aK aI;have⟨bq,bf⟩:=bm (vm aE) (λl y v ab=>(fL.rS an).cell ab dh) λl y p _ _ aw=>aw
 have bp:fM (fd K aN N aE) ai p r:=bq.t5 (λv a d g=>abN d g) ay;have bd:∀i a,cO aF i=B a->iv (fd K aN N aE) ai aE i a:=λi a d=>(bf i a d).pZ<|abM bc d
 have a0:nQ K aN aE N:=by
  refine ak.eV.step (ai:=aN) (aE:=aE) (aF:=N) s (λo=>o) (V.fn z) aH (λi A m D=>⟨A,ax i A m D,A.map_id.symm,bh _ _ (ax i A m D)⟩) aK aI ?_ (λbz a d a6=>a6.sR aM z az d) ?_ ?_ ?_
  .intro i al r A l aj k a9 aR ay bo Q aJ;obtain⟨e,a,S,aZ,rfl⟩:=af i r k ay;obtain⟨av,aB,aD,am,rfl⟩:=af al A a9 bo;rw[ao i e a S]at Q;rw[ao al av aB aD]at aJ;refine a_ e av a aB l aj (λba=>aR ?_) aZ am Q aJ;rw[<-(ae i e S).2.1,<-(ae al av aD).2.1,ba]
  .intro i eM k ay;obtain⟨e,a,m,D,rfl⟩:=af i eM k ay;have:=(bd e a D).fD (ez.gU.refl _) (fZ b) (ms b) aA (aS i e m) (by
    have:=bk _ (iM D);simp only[lc,beq_iff_eq]at this;rcases this with am|am
    .have:=(ae i e m).2.2.2;omega
    .exact am)
   rwa[(ae i e m).2.1]at this
  .intro i bu k S ay;have⟨e,a,m,D,_⟩:=af i _ k ay;have:=(ae i e m).1;omega
  .intro i r k ay aG l aj Q;obtain⟨e,a,m,D,rfl⟩:=af i r k ay;rw[ao i e a m]at Q;exact(bl e a D Xl l aj Q).elim (λC=>.inl<|mY ak.eV.gJ.size C) λC=>(rO C).elim
 have bn:=(ak.move a0 aM z az (match y.dst with|some s=>pS q.tmps s|none=>q.tmps) (λbx v ab=>by
  cases ag:y.dst with
  |none=>rw[ag]at ab;refine⟨ab,?_⟩;have:=aP _ _ ab;simpa[ag]using this
  |some aX=>
   rw[ag]at ab;simp only[t6]at ab;split at ab
   .cases ab
   .rename_i aR;refine⟨ab,?_⟩;have:=aP _ _ ab;simp only[ag,lc,beq_iff_eq,h0]at this;rcases this with m|m
    .exact absurd m aR
    .exact m)).put y.dst (nG a7) (bp.imp (λv a d g=>g.fD (ez.gU.refl _) (fZ b) (ms b) aA d) bj)
 refine a1 _ _ ⟨aN,bn.jU (λg=>?_) ?_⟩
 .cases ag:y.dst with
  |none=>rfl
  |some aX=>simp only[cP.after];exact(vU _ aX _ g).symm
 .cases ag:y.dst<;>rfl
def ahJ{f:gk}{d args:E cT}{aF:fK}{r:cT}(b:E (E Nat))(a:E (Nat×Nat))(m:hF ops y q=B T)(l:jB n y=T)(k:lh q y=B (f,d))(j:iz u f=T)
  (g:sS q b d=B args)
  (cR:vN q aF r a y.dst=T)(ay:r.eY V.pZ=T)(o:zf aF)(Y:ih u f args [] r aF):km u K n ops y q (q.after aF r a M y.dst):=by
 simp only[vN,fz,fp]at cR;have⟨⟨⟨⟨p,s⟩,t⟩,x⟩,z⟩:=cR;exact XH b a m l k j g p (λA v ab=>s _ (iM ab)) (λi r ay=>t _ (iM ay)) x z ay o Y
def Q1{f:gk}{ak:E cT}{r:cT}{aF:fK}(i:E (E Nat))(b:E (Nat×Nat))(Y:ih u f ak [] r aF)(a:N.FH i=B (f,ak))(t:zf aF)(ar:(N.ft n&&iz u f&&r.eY V.pZ&&vN N.d1 aF r b N.dst)=T)
  (g:TS u K n (N.next<|N.d1.after aF r b M N.dst) ah):TS u K n N ah:=by
 simp only[fz]at ar;have⟨⟨⟨p,q⟩,s⟩,d⟩:=ar;have⟨A,y,cK,G,j,k⟩:=ph p;unfold dT.FH at a;rw[cK]at a;simp only at a;split at a
 next z C l=>have⟨x,m,o⟩:=gG.1 a;cases o;rw[k]at g d;exact o8 cK (ahJ i b G j l q m d s t Y) g
 .cases a
def V.val:V->dp
 |.cY v=>v
 |_=>undef
def jE(mK:Bool)(a:E V):dp:=if mK then .agg (a.map V.val).toArray else match a with
 |[c]=>c.val
 |_=>undef
variable{am:Type}
def ja(a ai:Bool)(Q:S->E V)(ag:am->E V)(s:E (S×am)):E (dp×dp):=s.map λz=>(jE a (Q z.1),jE ai (ag z.2))
def i2(ae:S->S->Bool)(s:E (S×am))(g:S):X am:=(s.find? λz=>ae g z.1).map (·.2)
def pl(ae:S->S->Bool)(s:E (S×am))(g:S):Bool:=(s.find? λz=>ae g z.1).isSome
def ad_:ez:=λ_ _=>M
def aab:dY:=⟨λ_=>(0,0),λ_=>(undef,undef)⟩
def N3{rd:ez}{x:dY}{a:V}(h:a.jh=T):fA rd x a.val a:=by cases a<;>simp only[V.jh,j0]at h;exact .cY _
theorem afj{rd:ez}{x:dY}{a:E V}(h:a.all V.jh=T):j3 rd x (a.map V.val).toArray a:=by refine⟨dh,λm o ad=>⟨o.val,by simp[ad],N3 ef⟩⟩
theorem Sf{u:dw}{b:f1}{a:E V}(h:a.all V.jh=T)(G:gc u b=Z->F a=1):pD u ad_ aab b (jE (gc u b) a) a:=by
 unfold pD jE;cases d:gc u b
 .obtain⟨c,rfl⟩:=xB.1 (G d);simp only[j0,if_false];exact⟨c,rfl,N3 cU⟩
 .simp only[if_true];exact⟨_,rfl,afj h⟩
theorem amB{rd:ez}{x:dY}{mK:Bool}{a:E V}(h:a.all V.jh=T)(G:mK=Z->F a=1):p9 rd x (jE mK a) (mK,a):=by
 unfold p9 jE;cases mK
 .obtain⟨c,rfl⟩:=xB.1 (G rfl);simp only[j0,if_false];exact⟨c,rfl,N3 cU⟩
 .simp only[if_true];exact⟨_,rfl,afj h⟩
theorem RR{u:dw}(z:Bool){rd:ez}{x:dY}:∀(i:Nat) (b:f1) (a:dp) (p:E V) (r:Bool) (q:Nat) (w:d2),i<=q->pD u rd x b a p->lT u i b p p=B r->(zH z q b a).run u w=.ok () w
 |0,_,_,_,_,_,_,_,_,h=>o0
 |i+1,b,a,p,r,0,w,ab,d,h=>I
 |i+1,b,a,p,r,q+1,w,ab,d,h=>by
  unfold lT at h;split at h
  .rename_i aA;have y:gc u b=Z:=yx;unfold pD at d;rw[dA cU]at d;obtain⟨c,rfl,d⟩:=d;split at h
   next G S=>cases G;cases d;simp[zH,run_underlying aA]
   .cases h
  .rename_i ad aA;have y:gc u b=Z:=yx;unfold pD at d;rw[dA cU]at d;obtain⟨c,rfl,d⟩:=d;split at h
   next G S=>cases G;cases d;simp[zH,run_underlying aA]
   .cases h
  .rename_i eU aA;have y:gc u b=T:=yx;unfold pD at d;rw[dE y]at d;obtain⟨ae,rfl,d⟩:=d;split at h
   .cases h
   .rw[zH];simp only[g3,run_underlying aA,gn];rw[<-Array.forIn_toList];clear aA;generalize eU.toList=s at h;induction s generalizing r with
    |nil=>simp
    |cons f s N=>
     simp only[Mi]at h;split at h
     .cases h
     .rename_i cR;split at h
      .cases h
      .rename_i j hi;split at h
       .rename_i o;split at h
        .rename_i t l k C;cases h;have D:∃g,u.underlying f.type=B g:=by
          cases aA:u.underlying f.type with
          |some g=>exact cU
          |none=>
           exfalso;cases i with
           |zero=>cases k
           |succ i=>simp[lT,aA]at k
         have⟨g,K⟩:=D;have⟨Q,P,A⟩:=B8 (w:=w) K hi o.2.2.2 o.1 o.2.2.1 d;have aG:=RR z i f.type Q _ t q w I A k;simp only[Vg,g3,cR,ne_eq,not_false_eq_true,if_true,gn,P,aG,hM];exact N l C
        .cases h
       .cases h
  .rename_i n e aA;have y:gc u b=T:=yx;unfold pD at d;rw[dE y]at d;obtain⟨ae,rfl,d⟩:=d;split at h
   .rename_i j hi;rw[zH];simp only[g3,run_underlying aA,gn];simp only[afM,afN,ti,Nat.add_one_sub_one,Nat.div_one];rw[List.range_eq_range']at h;clear aA;generalize List.range' 0 n=s at h;induction s generalizing r with
    |nil=>simp
    |cons m s N=>
     simp only[Mj]at h;split at h
     .rename_i o;split at h
      .rename_i t l k C;cases h;have D:∃g,u.underlying e=B g:=by
        cases aA:u.underlying e with
        |some g=>exact cU
        |none=>
         exfalso;cases i with
         |zero=>cases k
         |succ i=>simp[lT,aA]at k
       have⟨g,K⟩:=D;have⟨Q,P,A⟩:=B8 (w:=w) K hi o.2.2.2 o.1 o.2.2.1 d;have aG:=RR z i e Q _ t q w I A k;have aa:u.cellsOf e=j.size:=agJ;simp only[Vg,g3,run_sizeOf w hi,aa,gn,P,aG,hM];exact N l C
      .cases h
     .cases h
   .cases h
  .cases h
def arI{u:dw}{d:f1}{i:TypeDesc}{a o:dp}{C l:Bool}(aA:u.underlying d=B i)(m:i≠.string)(h:Ok i a o=B C)(w:d2)(b:(HX 10000 d a o).run u w=.ok l w):C=l:=by
 unfold Ok at h;split at h
 .split at h
  next p g t q j af=>subst af;cases h;have:=run_equalIn_int w 9999 d g p t j aA;rw[this]at b;cases b;rfl
  .cases h
 .exact absurd rfl m
 next k j=>cases h;have:=run_equalIn_bool w 9999 d k j aA;rw[this]at b;cases b;rfl
 .cases h
variable{ad:f1}{a ai:Bool}{Q:S->E V}{ag:am->E V}{ae:S->S->Bool}
theorem akE(d:∀g,(Q g).all V.jh=T)(G:∀g,(gc u ad||F (Q g)==1)=T)(i:∀a o,lT u 40 ad (Q a) (Q o)=B (ae a o))(a o:S)(w:d2):(HX 10000 ad (jE (gc u ad) (Q a)) (jE (gc u ad) (Q o))).run u w=.ok (ae a o) w:=by
 have cN:∀g,gc u ad=Z->F (Q g)=1:=λg b=>by have:=G g;rwa[b,r7,beq_iff_eq]at this
 exact Mk (rd:=ad_) (x:=aab) 40 ad _ _ (Q a) (Q o) (ae a o) 10000 w dd (Sf ef<|cN a) (Sf ef cU) cU
def uF(a ai:Bool)(Q:S->E V)(ag:am->E V)(b:E zK)(s:E (S×am)):Prop:=b.map (λe=>(e.key,e.val))=ja a ai Q ag s
def uF.nil{b:E zK}(h:uF a ai Q ag b ([]:E (S×am))):b=[]:=tq.1 h
def uF.cons{b:E zK}{z:S×am}{s:E (S×am)}(h:uF a ai Q ag b (z::s)):∃e r,b=e::r/\e.key=jE a (Q z.1)/\e.val=jE ai (ag z.2)/\uF a ai Q ag r s:=by
 cases b with
 |nil=>cases h
 |cons e r=>simp only[uF,ja,hx,tm,mh]at h;exact⟨e,r,rfl,h.1.1,h.1.2,h.2⟩
def Qr(ai:Bool)(ag:am->E V)(r:X (Nat×dp))(v:X am):Prop:=match v with
 |some v=>∃j,r=B (j,jE ai<|ag v)
 |none=>r=M
def aal{i:TypeDesc}(aA:u.underlying ad=B i)(k:i≠.string)(ap:∀a o w,(HX 10000 ad (jE (gc u ad) (Q a)) (jE (gc u ad) (Q o))).run u w=.ok (ae a o) w)(w:d2)(g:S):∀(s:E (S×am)) (b:E zK) (j:Nat),uF (gc u ad) ai Q ag b s->
  Ol i (jE (gc u ad)<|Q g) b j=M\/∃r,Ol i (jE (gc u ad)<|Q g) b j=B r/\Qr ai ag r (i2 ae s g)
 |[],b,j,h=>by rw[h.nil];exact .inr ⟨M,rfl,rfl⟩
 |z::s,b,j,h=>by
  obtain⟨e,r,rfl,l,m,p⟩:=h.cons;unfold Ol;rw[l];cases aj:Ok i (jE (gc u ad) (Q g)) (jE (gc u ad) (Q z.1))with
  |none=>exact .inl rfl
  |some C=>
   have d:=arI aA k aj w<|ap g z.1 w;subst d;cases d:ae g z.1
   .rcases aal aA k ap w g s r (j+1) p with aG|⟨a,aG,aD⟩
    .exact .inl aG
    .refine .inr ⟨a,aG,?_⟩;have:i2 ae (z::s) g=i2 ae s g:=by simp[i2,d]
     rwa[this]
   .refine .inr ⟨_,rfl,?_⟩;have:i2 ae (z::s) g=B z.2:=by simp[i2,d]
    rw[this,m];exact⟨j,rfl⟩
def aaj(ap:∀a o w,(HX 10000 ad (jE (gc u ad) (Q a)) (jE (gc u ad) (Q o))).run u w=.ok (ae a o) w)(w:d2)(g:S):∀(s:E (S×am)) (b:E zK) (j:Nat),uF (gc u ad) ai Q ag b s->
  ∃r,(Vh ad (jE (gc u ad)<|Q g) b j).run u w=.ok r w/\Qr ai ag r (i2 ae s g)
 |[],b,j,h=>by rw[h.nil];exact⟨M,rfl,rfl⟩
 |z::s,b,j,h=>by
  obtain⟨e,r,rfl,i,k,l⟩:=h.cons;unfold Vh;have m:=ap g z.1 w;rw[i];simp only[Op.equal,Op.maxDepth,g3,m,gn];cases d:ae g z.1
  .have⟨a,aG,aD⟩:=aaj ap w g s r (j+1) l;refine⟨a,by simpa using aG,?_⟩;have:i2 ae (z::s) g=i2 ae s g:=by simp[i2,d]
   rwa[this]
  .refine⟨B (j,e.val),dh,?_⟩;have:i2 ae (z::s) g=B z.2:=by simp[i2,d]
   rw[this,k];exact⟨j,rfl⟩
theorem akD{i:Nat}{b d:E V}{r:Bool}(h:lT u i ad b d=B r):∃a,u.underlying ad=B a/\a≠.string:=by
 cases i with
 |zero=>cases h
 |succ i=>
  unfold lT at h;split at h
  next aA=>exact cU
  next aA=>exact cU
  next aA=>exact cU
  next aA=>exact cU
  .cases h
theorem aak(j:∀g,(Q g).all V.jh=T)(G:∀g,(gc u ad||F (Q g)==1)=T)(d:∀a o,lT u 40 ad (Q a) (Q o)=B (ae a o))(w:d2)(g:S)(s:E (S×am))(b:E zK)(h:uF (gc u ad) ai Q ag b s):
  ∃r,(Vi ad (jE (gc u ad)<|Q g) b).run u w=.ok r w/\Qr ai ag r (i2 ae s g):=by
 obtain⟨i,aA,k⟩:=akD<|d g g;have ap:=akE j G d;unfold Vi;simp only[g3,run_underlying aA,gn];rcases aal aA k ap w g s b 0 h with e|⟨r,aG,aD⟩
 .rw[e];exact aaj ap w g s b 0 h
 .rw[aG];exact cU
theorem ZQ(i:∀g,(Q g).all V.jh=T)(G:∀g,(gc u ad||F (Q g)==1)=T)(j:∀a o,lT u 40 ad (Q a) (Q o)=B (ae a o))(b:Bool)(g:S)(w:d2):(zH b 10000 ad (jE (gc u ad) (Q g))).run u w=.ok () w:=
 RR b 40 ad _ (Q g) _ 10000 w dd (Sf (i g) (λd=>by have:=G g;rw[d,r7,beq_iff_eq]at this;exact this)) (j g g)
def vs(mK:Bool):cT->X (E V)
 |.agg b=>if mK then B b else M
 |.c a=>if mK then M else B [a]
 |_=>M
theorem RQ{mK:Bool}{v:cT}{b:E V}(h:vs mK v=B b)(cN:b.all V.jh=T){rd:ez}{x:dY}{p:dp}(aA:fM rd x p v):p=jE mK b:=by
 unfold vs at h;split at h
 .split at h
  .rename_i d;cases h;subst d;obtain⟨l,rfl,G,g⟩:=aA;unfold jE;rw[dE rfl];congr 1;apply v6;intro m;simp only[List.getElem?_toArray,gy];cases ad:b[m]? with
   |none=>have:F b<=m:=List.getElem?_eq_none_iff.1 ad;rw[uy I];rfl
   |some o=>have⟨p,aC,au⟩:=g m o ad;have k:=fp.1 cN o ef;rw[aC];cases o<;>simp only[V.jh,j0]at k;rw[hw (x:=x) au];rfl
  .cases h
 .split at h
  .cases h
  .rename_i a d;cases h;have i:mK=Z:=by simpa using d
   subst i;simp only[v1,List.all_nil,Bool.and_true]at cN;cases a<;>simp only[V.jh,j0]at cN;have j:fA rd x p (.cY _):=aA;rw[hw (x:=x) j];rfl
 .cases h
def Bz:dy->Bool
 |{op:=.makeMap _ M,..}=>T
 |_=>Z
theorem ahL(i:Nat)(cK:Bz y=T)(o:hF ops y q=B T)(k:y.dst=B i)(N:i<n)(j:i<1000000)(m:nh q i (B i)):
  km u K n ops y q ((q.f3 i<|.dR []).put (B i)<|.c<|.dk i):=by
 refine nj o λx t w r D ah d=>?_
 obtain⟨b,cK⟩:∃b,y.op=.makeMap b M:=by
  unfold Bz at cK;split at cK
  .exact cU
  .cases cK
 unfold ln;simp only[execOp,cK,oD,Vk,g3,hM,run_newObj_alloc,gn,ly];have dI:=r.y3 i;have z:(x.iP i (.map<|B w.heap.size,undef) (0,0)).dM i=(.map<|B w.heap.size,undef):=rA;have⟨A,s⟩:=dI.add (ai:=x.iP i (.map<|B w.heap.size,undef) (0,0)) (aE:=w.alloc<|.map #[] 0) (r:=.dR []) j m.drop (λe am=>yA) (Ext.alloc w _) (λl y a=>by simp only[er,z]at a;cases a;exact jq _) (λs=>⟨w.heap.size,#[],0,E7,heap_alloc_new w _,rfl⟩)
 have C:=A.put (B i) cU (p:=.map<|B w.heap.size) (v:=.c<|.dk i) (by simp only[fM,fA,ea];rw[z];exact cU)
 rw[k];exact d _ _ ⟨_,C.jU (λg=>(vU (q.f3 i<|.dR []) i _ g).symm) rfl⟩
def UI(mK:Bool):dp->Bool
 |.agg _=>mK
 |_=> !mK
theorem ati{mK:Bool}{an:dp}(h:UI mK an=T):an=jE mK (an.cells.toList.map V.cY):=by
 have e:∀s:E dp,(s.map V.cY).map V.val=s:=λs=>by induction s<;>simp_all[V.val]
 cases an<;>cases mK<;>simp_all[UI,jE,Value.cells,V.val]
def y_(ai ok:Bool)(a:E V)(l:Bool):cT:=if ok then .eu [(ai,a),(Z,[.cY (.bool l)])]else if ai then .agg a else .c (a.headD .any)
def BC(u:dw)(q:cP)(y:dy):X (f1×Bool×Bool×E V×E (dp×dp)×E V):=match y.op with
 |.lookup j A g ok=>match u.underlying j,dZ q A,dZ q g with
  |some (.map ad a),B (.c (.dk i)),B d=>match cO q.Y i,vs (gc u ad) d,(u.info? a).bind (·.zero)with
   |some (.dR L),B b,B an=>if UI (gc u a) an then B (ad,gc u a,ok,b,L,an.cells.toList.map V.cY)else M
   |_,_,_=>M
  |_,_,_=>M
 |_=>M
theorem ame{rd:ez}{x:dY}{ai ok:Bool}{b:E V}{l:Bool}(cN:b.all V.jh=T)(G:(ai||F b==1)=T):fM rd x (if ok then .tuple #[jE ai b,.bool l]else jE ai b) (y_ ai ok b l):=by
 have g:p9 rd x (jE ai b) (ai,b):=amB cN ef;unfold y_;cases ok
 .simp only[j0,if_false];cases ai
  .simp only[j0,if_false];simp only[r7,beq_iff_eq]at G;obtain⟨c,rfl⟩:=xB.1 G;exact N3 cU
  .exact lB
 .simp only[if_true];refine⟨_,rfl,rfl,λm a d=>?_⟩
  match m,d with
  |0,d=>cases d;exact⟨_,rfl,g⟩
  |1,d=>cases d;exact⟨_,rfl,⟨_,rfl,.cY _⟩⟩
theorem aaH{ad:f1}{ai ok:Bool}{s:E (S×am)}{g:S}{an:am}(l:∀g,(Q g).all V.jh=T)(aw:∀v,(ag v).all V.jh=T)(G:∀g,(gc u ad||F (Q g)==1)=T)(av:∀v,(ai||F (ag v)==1)=T)(p:∀a o,lT u 40 ad (Q a) (Q o)=B (ae a o))
  (h:BC u q y=B (ad,ai,ok,Q g,ja (gc u ad) ai Q ag s,ag an)):jP u y q (y_ ai ok (ag<|(i2 ae s g).getD an) (i2 ae s g).isSome):=by
 unfold BC at h;split at h;rotate_left;cases h;rename_i ap A z k cK;split at h;rotate_left;cases h;rename_i ay b i az aA ah af;split at h;rotate_left;cases h;rename_i L ax aq cN aa N;split at h;rotate_left;cases h;rename_i ak;simp only[h0,mh]at h;obtain⟨rfl,rfl,rfl,rfl,rfl,ao⟩:=h;have⟨j,hi,N⟩:=jc.1 N;intro x rd t w d;obtain⟨aj,_⟩:t.eval A=(x.dM i).1/\_:=d.op A _ hD ah;have ab:=RQ aa ef<|d.op z _ hD af;have⟨r,C,c,D,K,P⟩:=d.gg i _ cN;have⟨a,aC,au⟩:=aak (ai:=gc u b) (ag:=ag) l G p w g s C.toList P;have al:aq=jE (gc u b) (ag an):=by rw[<-ao];exact ati ak
 unfold mSafe;have a3:(Vl ap (t.eval A) (t.eval z) k).run u w=.ok (if k then .tuple #[jE (gc u b) (ag<|(i2 ae s g).getD an),.bool (i2 ae s g).isSome]else jE (gc u b)<|ag<|(i2 ae s g).getD an) w:=by
  rw[aj,D,ab];simp only[Vl,g3,run_underlying aA,gn,Vm K,hM,ZQ l G p,aC];cases ar:i2 ae s g with
  |none=>rw[ar]at au;have au:a=M:=au;subst au;simp[zeroValue,typeInfo,program,hi,N,mZ,al]
  |some v=>rw[ar]at au;obtain⟨m,rfl⟩:=au;cases k<;>rfl
 simp only[execOp,cK,g3,a3,gn,hM];exact⟨Ext.refl w,λaB _ _=>ame ef cU⟩
def Gy(u:dw)(q:cP)(y:dy):X (Nat×f1×Bool×E V×E V×E (dp×dp)):=match y.op with
 |.mapUpdate j A g v=>match u.underlying j,dZ q A,dZ q g,dZ q v with
  |some (.map ad a),B (.c (.dk i)),B d,B l=>match cO q.Y i,vs (gc u ad) d,vs (gc u a) l,y.dst with
   |some (.dR L),B b,B k,M=>B (i,ad,gc u a,b,k,L)
   |_,_,_,_=>M
  |_,_,_,_=>M
 |.insert j A g v=>match u.underlying j,dZ q A,dZ q g,dZ q v with
  |some (.map ad a),B (.c (.dk i)),B d,B l=>match cO q.Y i,vs (gc u ad) d,vs (gc u a) l,y.dst with
   |some (.dR L),B b,B k,M=>B (i,ad,gc u a,b,k,L)
   |_,_,_,_=>M
  |_,_,_,_=>M
 |_=>M
theorem amD{i:Nat}{ad:f1}{ai:Bool}{k l:E V}{L:E (dp×dp)}(h:Gy u q y=B (i,ad,ai,k,l,L)):
  ∃b A g v a d j,(y.op=.mapUpdate b A g v\/y.op=.insert b A g v)/\u.underlying b=B (.map ad a)/\dZ q A=B (.c<|.dk i)/\dZ q g=B d/\dZ q v=B j/\cO q.Y i=B (.dR L)/\vs (gc u ad) d=B k/\vs (gc u a) j=B l/\y.dst=M/\ai=gc u a:=by
 unfold Gy at h;split at h
 .rename_i b A g v cK;split at h
  .rename_i C a o d j aA x af ab;split at h
   next m z D cN p s t=>cases h;exact ef
   .cases h
  .cases h
 .rename_i b A g v cK;split at h
  .rename_i C a o d j aA x af ab;split at h
   next m z D cN p s t=>cases h;exact ef
   .cases h
  .cases h
 .cases h
def aff{i:Nat}{ad:f1}{ai:Bool}{s:E (S×am)}{g:S}{v:am}(t:∀g,(Q g).all V.jh=T)(aa:∀v,(ag v).all V.jh=T)(G:∀g,(gc u ad||F (Q g)==1)=T)(P:∀a o,lT u 40 ad (Q a) (Q o)=B (ae a o))(D:(!pl ae s g)=T)
  (h:Gy u q y=B (i,ad,ai,Q g,ag v,ja (gc u ad) ai Q ag s)):qh u y q i (.dR<|ja (gc u ad) ai Q ag s) (.dR<|ja (gc u ad) ai Q ag<|s++[(g,v)]) (.eu []):=by
 obtain⟨aB,A,K,ao,k,aE,aG,cK,aA,ar,af,ab,cN,ah,aj,al,rfl⟩:=amD h;refine⟨cN,rfl,λ_ _ _ C=>C,λx rd ak w j=>?_⟩;have av:A∈y.op.operands.toList:=Xy;have ap:K∈y.op.operands.toList:=Xy;have ay:ao∈y.op.operands.toList:=Xy;obtain⟨aw,_⟩:ak.eval A=(x.dM i).1/\_:=j.op A _ av ar;have aq:=RQ ah (t g)<|j.op K _ ap af;have az:=RQ aj (aa v)<|j.op ao _ ay ab;have⟨r,b,c,m,d,p⟩:=j.gg i _ cN;have⟨a,aC,au⟩:=aak (ai:=gc u k) (ag:=ag) t G P w g s b.toList p;have ax:i2 ae s g=M:=by
  unfold pl at D;unfold i2;cases C:s.find? (λz=>ae g z.1)with
  |none=>rfl
  |some _=>rw[C]at D;cases D
 rw[ax]at au;have au:a=M:=au;subst au;have aX:=(l4.1 d).1;have a3:(Vn aB (ak.eval A) (ak.eval K)<|ak.eval ao).run u w=.ok () {w with heap:=w.heap.setIfInBounds r<|.map (b.push {key:=jE (gc u ad)<|Q g,val:=jE (gc u k)<|ag v,born:=c})<|c+1}:=by rw[aw,m,aq,az];simp only[Vn,g3,run_underlying aA,gn,Vm d,ZQ t G P,aC,MapKept.run_setObj_map _ d]
 have an:(execOp ak.eval y).run u w=.ok .skip {w with heap:=w.heap.setIfInBounds r<|.map (b.push {key:=jE (gc u ad)<|Q g,val:=jE (gc u k)<|ag v,born:=c})<|c+1}:=by rcases cK with cK|cK<;>simp only[execOp,cK,g3,a3,gn,hM]
 refine⟨_,_,an,⟨rfl,rfl,rfl,dh,λl aD=>?_⟩,.inl ⟨rfl,al⟩,λaF _=>⟨r,_,_,m,Vo aX,?_⟩⟩
 .by_cases N:l=r
  .subst N;exact .inr<|.inr ⟨m,b,c,_,_,d,Vo aX⟩
  .refine .inl ?_;simp only;rw[Array.getElem?_setIfInBounds_ne (l5 N)]
 .unfold WV at p⊢;simp only[Array.toList_push,hN,p,hx,jY,ja]
def dT.Bz(N:dT):Bool:=match N.op with
 |some (_,y)=>Go.Proofs.YtddmdeaegbfhaaaGreat.Bz y
 |none=>Z
def Ya(i:Nat)(hi:N.Bz=T)(ar:N.k2 n i=T)(g:TS u K n (N.next ((N.d1.f3 i (.dR [])).put (B i) (.c (.dk i)))) ah):TS u K n N ah:=by have⟨k,y,cK,G,a,b,d,j⟩:=GK ar;unfold dT.Bz at hi;rw[cK]at hi;exact o8 cK (ahL i hi G a b d j) g
def ais{ad:f1}{ai ok:Bool}(Q:S->E V)(ag:am->E V)(ae:S->S->Bool)(s:E (S×am))(g:S)(an:am)(d:∀g,(Q g).all V.jh=T)(i:∀v,(ag v).all V.jh=T)(G:∀g,(gc u ad||F (Q g)==1)=T)(b:∀v,(ai||F (ag v)==1)=T)(j:∀a o,lT u 40 ad (Q a) (Q o)=B (ae a o))
  (h:N.fQ (BC u)=B (ad,ai,ok,Q g,ja (gc u ad) ai Q ag s,ag an))(ar:N.ft n=T)(k:TS u K n (N.ret<|y_ ai ok (ag<|(i2 ae s g).getD an) (i2 ae s g).isSome) ah):TS u K n N ah:=
 l8 _ ar (λm l cK=>aaH d i G b j<|jb h cK) k
def Fj{ad:f1}{ai ok:Bool}(Q:S->E V)(ag:am->E V)(ae:S->S->Bool)(s:E (S×am))(g:S)(an:am)(r:X am)(ay:B (i2 ae s g)=B r)(d:∀g,(Q g).all V.jh=T)(i:∀v,(ag v).all V.jh=T)(G:∀g,(gc u ad||F (Q g)==1)=T)(b:∀v,(ai||F (ag v)==1)=T)(j:∀a o,lT u 40 ad (Q a) (Q o)=B (ae a o))
  (h:N.fQ (BC u)=B (ad,ai,ok,Q g,ja (gc u ad) ai Q ag s,ag an))(ar:N.ft n=T)(k:TS u K n (N.ret<|y_ ai ok (ag<|r.getD an) r.isSome) ah):TS u K n N ah:=by
 cases ay;exact ais Q ag ae s g an d i G b j h ar k
def ah7{ad:f1}{ai ok:Bool}(Q:S->E V)(ag:am->E V)(ae:S->S->Bool)(s:E (S×am))(g:S)(an:am)(d:∀g,(Q g).all V.jh=T)(i:∀v,(ag v).all V.jh=T)(G:∀g,(gc u ad||F (Q g)==1)=T)(b:∀v,(ai||F (ag v)==1)=T)(j:∀a o,lT u 40 ad (Q a) (Q o)=B (ae a o))
  (h:P.fQ (BC u)=B (ad,ai,ok,Q g,ja (gc u ad) ai Q ag s,ag an))(ar:P.ft n=T)(k:TD u K n (P.ret<|y_ ai ok (ag<|(i2 ae s g).getD an) (i2 ae s g).isSome) ah):TD u K n P ah:=
 nl _ ar (λm l cK=>aaH d i G b j<|jW h cK) k
def ah8{ad:f1}{ai ok:Bool}(Q:S->E V)(ag:am->E V)(ae:S->S->Bool)(s:E (S×am))(g:S)(an:am)(r:X am)(ay:B (i2 ae s g)=B r)(d:∀g,(Q g).all V.jh=T)(i:∀v,(ag v).all V.jh=T)(G:∀g,(gc u ad||F (Q g)==1)=T)(b:∀v,(ai||F (ag v)==1)=T)(j:∀a o,lT u 40 ad (Q a) (Q o)=B (ae a o))
  (h:P.fQ (BC u)=B (ad,ai,ok,Q g,ja (gc u ad) ai Q ag s,ag an))(ar:P.ft n=T)(k:TD u K n (P.ret<|y_ ai ok (ag<|r.getD an) r.isSome) ah):TD u K n P ah:=by
 cases ay;exact ah7 Q ag ae s g an d i G b j h ar k
def Lz{ad:f1}{ai:Bool}(i:Nat)(Q:S->E V)(ag:am->E V)(ae:S->S->Bool)(s:E (S×am))(g:S)(v:am)(b:∀g,(Q g).all V.jh=T)(d:∀v,(ag v).all V.jh=T)(G:∀g,(gc u ad||F (Q g)==1)=T)(j:∀a o,lT u 40 ad (Q a) (Q o)=B (ae a o))(k:(!pl ae s g)=T)
  (h:N.fQ (Gy u)=B (i,ad,ai,Q g,ag v,ja (gc u ad) ai Q ag s))(ar:N.ft n=T)(l:TS u K n (N.next<|(N.d1.f3 i<|.dR<|ja (gc u ad) ai Q ag<|s++[(g,v)]).put N.dst<|.eu []) ah):TS u K n N ah:=
 LB (λp m cK=>aff b d G j k<|jb h cK) ar l
def ah_{ad:f1}{ai:Bool}(i:Nat)(Q:S->E V)(ag:am->E V)(ae:S->S->Bool)(s:E (S×am))(g:S)(v:am)(b:∀g,(Q g).all V.jh=T)(d:∀v,(ag v).all V.jh=T)(G:∀g,(gc u ad||F (Q g)==1)=T)(j:∀a o,lT u 40 ad (Q a) (Q o)=B (ae a o))(k:(!pl ae s g)=T)
  (h:P.fQ (Gy u)=B (i,ad,ai,Q g,ag v,ja (gc u ad) ai Q ag s))(ar:P.ft n=T)(l:TD u K n (P.push ⟨P.need,P.dst,.eu [],B (i,.dR<|ja (gc u ad) ai Q ag<|s++[(g,v)]),Z,M,[]⟩) ah):TD u K n P ah:=
 yG (λp m cK=>aff b d G j k<|jW h cK) ar l
def f0(g:g0)(s:E Int):Nat->Nat->E V
 |_,0=>[]
 |t,n+1=>.cY (.int g<|s.getD t 0)::f0 g s (t+1) n
variable{ai:dY}
def ahF{K:fb}{n:Nat}{t:Act}{w:d2}{q:cP}{b:Nat}{a:g0}{e v:Int}(h:cO q.tmps b=B (.c (.cY (.int a e))))(d:e=v)(r:R K n t w q):R K n t w (q.put (B b) (.c (.cY (.int a v)))):=by
 subst d;have⟨x,r⟩:=r;refine⟨x,r.jU (λg=>?_) rfl⟩;rw[ov];split
 next af=>subst af;exact h.symm
 .rfl
def Su(q:cP)(b:Nat):X (g0×Int):=match cO q.tmps b with
 |some (.c (.cY (.int a e)))=>B (a,e)
 |_=>M
def alO{q:cP}{b:Nat}{a:g0}{e:Int}(h:Su q b=B (a,e)):cO q.tmps b=B (.c (.cY (.int a e))):=by
 unfold Su at h;split at h
 next g d cN=>cases h;exact cN
 .cases h
def Q4(b:Nat){a:g0}{e v:Int}(ab:e=v)(h:Su N.d1 b=B (a,e))(d:N.pre=T)(g:TS u K n (N.tf (N.d1.put (B b) (.c (.cY (.int a v))))) ah):TS u K n N ah:=vg _ (λ_ _ r=>ahF (alO h) ab r) d g
def J{z:Prop}(h:z:=by kernel_rfl):z:=h
def akp{ag:Type}{l:Bool}{a:X ag}{r:ag}(h:(bif l then a else M)=B r):l=T/\a=B r:=ZR h
theorem ZY{ag:Type}{l:Bool}{a:X ag}{r:ag}(h:(bif l then M else a)=B r):l=Z/\a=B r:=by
 cases l
 .exact cU
 .cases h
def c5(a:Int):V:=.cY (.int W a)
def da(a:Int):V:=.cY (.int cH a)
def fm(a:Int):V:=.cY (.int fW a)
def hL(a:Int):V:=.cY (.int e9 a)
def d6(a:Int):V:=.cY (.int cZ a)
def gR(l:Bool):V:=.cY (.bool l)
def eO(i:Nat):cT:=.c (.box i 0)
def cX(d a:E Nat):i5:=⟨d.map λb=>(b,[]),a.map λi=>(i,(i,[]))⟩
def eE(d:E Nat)(a:E (Nat×Nat)):i5:=⟨d.map λb=>(b,[]),a.map λi=>(i.1,(i.2,[]))⟩
def yu(u:dw)(f:gk)(e:f1)(sz a:Nat):Prop:=
 ∀(w:d2) (o aB:dp) (Q j:Nat) (P aF:E dp),
  w.ownsRow 0 e sz o Q P->w.ownsRow 0 e sz aB 1 aF->(∀g,o.ownBlock=B g->aB.ownBlock≠B g)->j<=Q->(∀p∈aF,p.oneCell'=T)->(∀p∈P,p.oneCell'=T)->
  Q+1<=maxLen->(Q+1)*a<=140737488355328->
  Hy u f #[o,.int W j,aB] w λgQ aE=>∃aY,gQ=.returned aY/\aE.ownsRow 0 e sz aY (Q+1) (P.take (j*sz)++aF++P.drop (j*sz))/\fL w (λl _=>o.ownBlock=B l) aE/\∀g,aY.ownBlock=B g->o.ownBlock=B g\/w.heap.size<=g
theorem NH{u:dw}(w:d2)(i q e:f1)(b:n9)(aA:u.underlying i=B (.slice e))(hi:u.info? e=B b)(sz:Nat)(aU:b.size=sz)(l y j s:Nat)(a:mX)(d av g:Nat)(aF:E dp)
  (af:HC d j=g)(cN:F aF=g*sz)(p:∀m v,aF[m]?=B v->w.cell? (a.add m)=B v)(t:∀m,m<F aF->(w.cell? ⟨l,y+m,M⟩).isSome=T)(x:∀m,m<F aF->w.frozen? ⟨l,y+m,M⟩=Z)(G:∀v∈aF,v.oneCell'=T):
  (p6 #[i,i] q #[.slice (B ⟨l,y,M⟩) j s,.slice (B a) d av]).run u w=.ok (goInt g) (w.setCells l y aF):=by
 subst aU;have o:=run_firstCells_some (P:=u) w b.size g a d av aF cN p;have k:=run_storeCells_cells (P:=u) l y aF 0 w lB lB G;simp only[jO]at k;simp[p6,run_underlying aA,v3,sizeOf,typeInfo,hi,af,o,k]
def UE{u:dw}(w:d2){ops:Array dy}{a:E dy}{y:dy}{t:Act}{ah:fE->Act->d2->Prop}(l:y.guard=M)(i q:hp)(b d:f1)
  (cK:y.op=.call {callee:=.builtin .copy,args:= #[i,q],argTypes:= #[b,d]})(v p:dp)(k:t.eval i=v)(aj:t.eval q=p){g:dp}{aE:d2}
  (ay:(p6 #[b,d] y.type #[v,p]).run u w=.ok g aE)(h:wpList u ops ah a (t.put y.dst g) aE):wpList u ops ah (y::a) t w:=
 wpList_plain l λ_ j=>by unfold ln execOp;simp only[cK,resolve,invoke,builtin,g3,hM,gn,p5,hx,jY,k,aj,ay];exact j _ _ h
def aeR{u:dw}{ops:Array dy}{y:dy}{t:Act}{w:d2}{K:Act->d2->Prop}{ah:fE->Act->d2->Prop}{aq:Prop}
  (ar:y.guard=M)(i a:hp)(b g:f1)(cK:y.op=.call {callee:=.builtin .copy,args:= #[i,a],argTypes:= #[b,g]})
  (v p:dp)(l:t.eval i=v)(d:t.eval a=p){j:dp}{aE:d2}(ay:(p6 #[b,g] y.type #[v,p]).run u w=.ok j aE)(k:K (t.put y.dst j) aE):
  if xF y (yielded ops t.tmps)=T then ln u y t w K ah else aq:=by
 rw[dE (by simp[xF,ar])];unfold ln execOp;simp only[cK,resolve,invoke,builtin,g3,hM,gn,p5,hx,jY,l,d,ay];exact k
def Ua(l:Nat):∀(a:E dp) (y:Nat) (w:d2),w.drew.setCells l y a=(w.setCells l y a).drew
 |[],_,_=>rfl
 |v::r,y,w=>by rw[Vp,Vp,<-Ua l r];rfl
theorem alM{w:d2}{e sz Q j:Nat}{l aV:Nat}{P aF:E dp}(h:w.ownsRow 0 e sz (.slice (B ⟨l,0,M⟩) Q aV) Q P)(ay:Q+1<=aV)(hi:j<=Q)(ab:F aF=sz):
  ((w.setCells l ((j+1)*sz)<|P.drop<|j*sz).setCells l (j*sz) aF).ownsRow 0 e sz (.slice (B ⟨l,0,M⟩) (Q+1) aV) (Q+1) (P.take (j*sz)++aF++P.drop (j*sz))/\
  fL w (λg _=>g=l) ((w.setCells l ((j+1)*sz)<|P.drop<|j*sz).setCells l (j*sz) aF):=by
 obtain⟨ax,k|⟨aW,aA,ao,aC,au,aL,aT,aK,a6,u⟩⟩:=h
 .cases k.1
 .cases aC;have a_:(ao.toList.take<|Q*sz)=P:=u;obtain⟨a,i⟩:∃a,a=ao.toList.take ((Q+1)*sz):=cU;have m:F ao.toList=aV*sz:=by rw[pz];exact a6
  have x:(Q+1)*sz<=aV*sz:=j1 _ ay;have b:F a=(Q+1)*sz:=by rw[i,hO,m];omega
  have bd:(Q+1)*sz=Q*sz+sz:=yz;have ba:(j+1)*sz=j*sz+sz:=yz;have aO:j*sz<=Q*sz:=j1 _ hi;have aZ:w.ownsRow 0 e sz (.slice (B ⟨l,0,M⟩) (Q+1) aV) (Q+1) a:=⟨b,.inr ef⟩;have ad:F (P.drop<|j*sz)=Q*sz-j*sz:=ahw;have⟨t,q⟩:=vS aZ rfl ((j+1)*sz) (P.drop<|j*sz) dd;have⟨d,s⟩:=vS t rfl (j*sz) aF dd;refine⟨?_,(q.trans s cU).kN (λg _ af=>by simp only[n6,h0]at af;exact af.symm)⟩;rw[ad,ab]at d;have o:a.drop ((j+1)*sz+(Q*sz-j*sz))=[]:=Co (by rw[b,bd,ba];omega);have p:∀A,A<=Q*sz->a.take A=P.take A:=by intro A y;rw[i,<-a_,ts,ts];congr 1;omega
  rw[o,nb]at d;have aG:(a.take ((j+1)*sz)++P.drop (j*sz)).take (j*sz)=P.take (j*sz):=by rw[sc (by rw[hO,b,ba,bd];omega),ts,jw (by rw[ba];omega),p _ aO]
  have aD:(a.take ((j+1)*sz)++P.drop (j*sz)).drop (j*sz+sz)=P.drop (j*sz):=by rw[<-ba,List.drop_append,Co yB,k8,hO,b,jw (by rw[ba,bd];omega),v2,v4]
  rwa[aG,aD]at d
theorem alL{w:d2}{e:f1}{sz Q j aV:Nat}{P aF:E dp}{row:Array dp}(ax:F P=Q*sz)(hi:j<=Q)(ab:F aF=sz)(b:row.size=aV*sz)(d:Q+1<=aV)(aB:aV<=maxLen)(k:row.toList.take (j*sz)=P.take (j*sz)):
  (((w.alloc<|.cells row e).setCells w.heap.size (j*sz) aF).setCells w.heap.size ((j+1)*sz)<|P.drop<|j*sz).ownsRow 0 e sz (.slice (B ⟨w.heap.size,0,M⟩) (Q+1) aV) (Q+1) (P.take (j*sz)++aF++P.drop (j*sz))/\
  fL w (λ_ _=>False) (((w.alloc<|.cells row e).setCells w.heap.size (j*sz) aF).setCells w.heap.size ((j+1)*sz)<|P.drop<|j*sz):=by
 have q:(Q+1)*sz<=aV*sz:=j1 _ d;have bd:(Q+1)*sz=Q*sz+sz:=yz;have ba:(j+1)*sz=j*sz+sz:=yz;have aO:j*sz<=Q*sz:=j1 _ hi;have aZ:(w.alloc<|.cells row e).ownsRow 0 e sz (.slice (B ⟨w.heap.size,0,M⟩) (Q+1) aV) (Q+1) (row.toList.take<|(Q+1)*sz):=⟨ahx,.inr ⟨w.heap.size,aV,row,rfl,ny _,heap_alloc_new w _,d,aB,b,rfl⟩⟩
 have ad:F (P.drop<|j*sz)=Q*sz-j*sz:=ahw;have⟨p,l⟩:=vS aZ rfl (j*sz) aF dd;have⟨a,m⟩:=vS p rfl ((j+1)*sz) (P.drop<|j*sz) dd;have s:F (row.toList.take<|(Q+1)*sz)=(Q+1)*sz:=ahx;have o:fL w (λ_ _=>False) (w.alloc<|.cells row e):=fL.alloc w _ _;refine⟨?_,o.trans (l.trans m cU) λg _ aX af=>?_⟩
 .rw[ad,ab]at a;have i:((row.toList.take<|(Q+1)*sz).take (j*sz)++aF++(row.toList.take<|(Q+1)*sz).drop (j*sz+sz)).drop ((j+1)*sz+(Q*sz-j*sz))=[]:=by refine Co ?_;simp only[g9,hO,my,pz,b,ab,bd,ba];omega
  rw[i,nb]at a;have aG:((row.toList.take<|(Q+1)*sz).take (j*sz)++aF++(row.toList.take<|(Q+1)*sz).drop (j*sz+sz)).take ((j+1)*sz)=P.take (j*sz)++aF:=by
   have aC:(row.toList.take<|(Q+1)*sz).take (j*sz)=P.take (j*sz):=by rw[ts,jw (by rw[bd];omega),k]
   rw[aC];have au:F (P.take (j*sz)++aF)=(j+1)*sz:=by rw[g9,hO,ax,ab,ba];omega
   rw[sc I,k9 I]
  rwa[aG]at a
 .simp only[n6,h0]at af;omega
def q1{ag:Type}(b:Nat)(s:E ag)(j:Int)(a:ag):X (E ag):=if 0<=j/\j<=(F s:Int)/\(F s+1)*b<=140737488355328/\F s+1<=maxLen then B (s.take j.toNat++[a]++s.drop j.toNat)else M
def y7(q:cP)(y:dy):X (Nat×Nat×Nat×Nat×Nat×Nat×E (E V)×Int×E (E V)):=match lh q y with
 |some (f,[.c (.dk i),.c (.cY (.int W j)),.c (.dk a)])=>match cO q.Y i,cO q.Y a with
  |some (.row e sz Q ae),B (.row b d 1 g)=>if b=e/\d=sz/\i≠a then B (f,i,a,e,sz,Q,ae,j,g)else M
  |_,_=>M
 |_=>M
variable{ag:Type}
theorem hK.one{rd:ez}{sz:Nat}{aF:E dp}{ae:E (E V)}(aj:0<sz)(cN:F aF=F ae*sz)(h:hK rd sz aF ae)(G:∀a∈ae,a.all V.one=T):∀v∈aF,v.oneCell'=T:=by
 intro v ab;have⟨g,af⟩:=xC ab;have⟨aX,m⟩:=ie.1 af;have j:=Nat.div_add_mod g sz;have o:=zC g aj;have b:g/sz<F ae:=by rw[Nat.div_lt_iff_lt_mul aj];omega
 have d:=e6 b;have aP:=h.1 _ (fi b);have ad:=e6 (l:=ae[g/sz]) (i:=g%sz) I;have⟨p,i,l⟩:=h.2 _ _ _ _ d ad;have k:g/sz*sz+g%sz=g:=by rw[re];exact j
 rw[k,af]at i;cases i;exact Nr l<|fp.1 (G _ (fi b)) _ cU
theorem XL{f i z e sz am Q:Nat}{j:Int}(b:ag->E V)(aq:∀a,(b a).all V.one=T)(aN:yu u f e sz am){s ae:E ag}{a:ag}(k:q1 am s j a=B ae)(h:y7 q y=B (f,i,z,e,sz,Q,s.map b,j,[b a]))(aj:decide (0<sz)=T)(aS:iz u f=T)(aX:hF ops y q=B T)(aV:jB n y=T):
  km u K n ops y q (((q.iJ<|V.hv i).f3 i<|.row e sz (F ae)<|ae.map b).put y.dst<|.c<|.dk i):=by
 unfold y7 at h;split at h;rotate_left;cases h;rename_i bm bk bq bl N;split at h;rotate_left;cases h;rename_i aG bt bg bv aD bu bw cN av;split at h;rotate_left;cases h;rename_i ap;obtain⟨rfl,rfl,aW⟩:=ap;cases h;simp only[q1]at k;split at k;rotate_left;cases k;rename_i aT;cases k;have⟨bn,a1,aJ,ak⟩:=aT;obtain⟨A,rfl⟩:∃A:Nat,j=A:=⟨j.toNat,I⟩;simp only[gz];have aA:=f8 aj;refine nj aX λx t w r bf ah aO=>?_
 have a6:=r.kM.o y;have⟨aI,G,D,ao⟩:=vp N aS a6;have⟨bc,lD,a8⟩:=D 0 _ rfl;have⟨aH,aC,a9⟩:=D 1 _ rfl;have⟨bd,au,a_⟩:=D 2 _ rfl;have a4:aI= #[bc,aH,bd]:=by
  apply v6;intro m
  match m with
  |0=>rw[lD];rfl
  |1=>rw[aC];rfl
  |2=>rw[au];rfl
  |m+3=>have:aI.size=3:=G;rw[uy I,uy dh]
 have aL:aH=.int W A:=hw a9;have⟨aK,_⟩:=a8;have⟨aM,_⟩:=a_;subst aL;subst aK;subst aM;rw[a4]at ao;have⟨P,aZ,S,ab⟩:=r.eV.gg i _ cN;have⟨aF,d,bp,az⟩:=r.eV.gg z _ av;have a2:F s=Q:=QQ;have ax:=aZ.1;have a5:=d.1;have bo:F s+1=Q+1:=I;rw[a2]at a1 aJ ak;have aU:=aN w _ _ Q A P aF aZ d (λg af a0=>r.eV.lR i z _ _ g 0 aW cN av af a0) I
  (hK.one aA lB az ef)
  (hK.one aA cU ab λo ad=>ahy) ak aJ
 unfold ln;rw[ao];simp only[ly];refine aU.mono λgQ aE ap=>?_
 obtain⟨aY,rfl,aB,br,a7⟩:=ap;simp only;have⟨bh,bj,aR,_,_,_,_⟩:=kK aB
 let ai:dY:={dn:=x.dn,dM:=λe=>if e=i then(aY,(x.dM i).2)else x.dM e};have aa:ai.dM i=(aY,(x.dM i).2):=E4;have ay:ES x ai i:=⟨λ_=>rfl,λe C=>E5,λe=>by by_cases C:e=i<;>simp[ai,C]⟩;have aP:F (s.take A++[a]++s.drop A)=Q+1:=ahz;have al:A<=Q:=I;have a3:hK (fd K x q.Y w) sz (P.take (A*sz)++aF++P.drop (A*sz)) ((s.take A++[a]++s.drop A).map b):=by
  have aG:hK (fd K x q.Y w) sz (P.take<|A*sz) ((s.take A).map b):=by have:=ab.je 0 A;simpa[nx]using this
  have aQ:hK (fd K x q.Y w) sz (P.drop<|A*sz) ((s.drop A).map b):=by
   have:=ab.je A<|Q-A;have C:(P.drop<|A*sz).take ((Q-A)*sz)=P.drop (A*sz):=k9 Ln;have ba:((s.map b).drop A).take (Q-A)=(s.drop A).map b:=by rw[up];exact k9 cU
   rwa[C,ba]at this
  rw[hN,hN];have aw:A*sz<=F P:=ahA;refine(aG.append az ?_).append aQ ?_
  .simp only[fT,hO];rw[jw aw,jw I]
  .simp only[g9,fT,hO,lG,a5,rh];rw[jw aw,jw I,jZ,rh]
 have⟨bb,p⟩:=r.N0 (ai:=ai) (aE:=aE) (r:=.row e sz (F<|s.take A++[a]++s.drop A)<|(s.take A++[a]++s.drop A).map b) (V.hv i) cN ef ay.dM (λ_=>T) (λ_ v _=>v.qW) (λ_ a _=>a.qW) (λp v a _ N=>N.hv p ay) lB (λl bs ar=>by simp only[er,aa]at ar;exact a7 l ar) (λ_ C=>lL) rfl (λp=>⟨_,by rw[aa,aP];exact aB,dh,a3.mono p⟩)
 refine aO _ _ ⟨ai,bb.put y.dst (nG aV) ?_⟩;simp only[fM,fA,ea];rw[aa];exact⟨rfl,.inl ⟨_,_,_,aR⟩⟩
def Q3{f i l e sz k Q:Nat}{j:Int}(b:ag->E V)(t:∀a,(b a).all V.one=T)(p:yu u f e sz k){s d:E ag}{a:ag}(q:q1 k s j a=B d)(h:N.fQ y7=B (f,i,l,e,sz,Q,s.map b,j,[b a]))(ar:(N.ft n&&iz u f&&decide (0<sz))=T)
  (g:TS u K n (N.next<|((N.d1.iJ<|V.hv i).f3 i<|.row e sz (F d)<|d.map b).put N.dst<|.c<|.dk i) ah):TS u K n N ah:=by
 simp only[fz]at ar;have⟨x,y,cK,G,m,o⟩:=ph ar.1.1;rw[o]at g;exact o8 cK (XL b t p q (jb h cK) ar.2 ar.1.2 G m) g
abbrev WU:=E (Nat×(Nat×cT))
def RF(o:WU)(j:Nat):WU:=o.filter λz=>decide (z.1<j)
variable{i:Nat}
variable{ag:am->E V}
def FM(q:cP)(l:Nat)(b:E Nat):X cP:=match q.lj l with
 |some a=>B<|q.f3 l<|.box<|kp b a
 |none=>M
def R.FM{K:fb}{n:Nat}{t:Act}{w:d2}{q ao:cP}(h:R K n t w q){l:Nat}{b:E Nat}(aj:FM q l b=B ao):R K n t w ao:=by
 have⟨x,h⟩:=h;unfold Go.Proofs.YtddmdeaegbfhaaaGreat.FM at aj;split at aj
 next i cN=>cases aj;refine⟨x,h.G_ (za cN) (Bk _ _) λm a o d ad p aA=>?_⟩;obtain⟨g,j,G,rfl⟩:=tW b i m o ad;rw[d]at G;cases G;exact FK g aA
 .cases aj
def og{u:dw}{K:fb}{n:Nat}{ah:fE->cP->Prop}{N:dT}(l:Nat)(b:E Nat)(a:N.pre=T)(g:TS u K n (N.ra (FM N.d1 l b)) ah):TS u K n N ah:=ve (λ_ _ _ aj r=>r.FM aj) a g
def V.md:V->V
 |.d_ q 1 n ae=>.d_ q 0 n ae
 |a=>a
def V.hG:V->V
 |.d_ q 0 n ae=>.d_ q 1 n ae
 |a=>a
def h2.md{rd:ez}{v:dp}{a:V}(h:h2 rd v a):h2 rd v a.md:=by
 unfold V.md;split
 .cases h with
  |xl _ _ _ _ h _=>exact h
 .exact h
def hK.md{rd:ez}{q:Nat}{P:E dp}{ae:E (E V)}(h:hK rd q P ae):hK rd q P (ae.map (jv V.md)):=by
 refine⟨λa d=>?_,λj a m o d ad=>?_⟩
 .obtain⟨b,dI,rfl⟩:=hT.1 d;rw[fT];exact h.1 b dI
 .rw[gy]at d;obtain⟨b,i,rfl⟩:=gG.1 d;rw[gy]at ad;obtain⟨l,k,rfl⟩:=gG.1 ad;have⟨p,G,g⟩:=h.2 j b m l i k;exact⟨p,G,g.md⟩
def h2.atc{rd:ez}{v:dp}{q n:Nat}{ae:E (E V)}(h:h2 rd v (.d_ q 0 n ae)):h2 rd v (.d_ q 0 n (ae.map (jv V.md))):=by
 cases h with
 |nil q t c k=>exact .nil q t c k
 |d_ l y n c q ae p cR u k aj ay aA=>
  have s:∀(j:Nat) (a:E V) (m:Nat) (o:V),(ae.map<|jv V.md)[j]?=B a->a[m]?=B o->∃b g,ae[j]?=B b/\b[m]?=B g/\o=g.md:=by intro j a m o d ad;rw[gy]at d;obtain⟨b,x,rfl⟩:=gG.1 d;rw[gy]at ad;obtain⟨g,z,rfl⟩:=gG.1 ad;exact⟨b,g,x,z,rfl⟩
  refine .d_ l y n c q _ p (by simpa using cR) u k (λa d=>?_) (λj a m o d ad=>?_) λj a m o d ad=>?_
  .obtain⟨b,dI,rfl⟩:=hT.1 d;rw[fT];exact aj b dI
  .obtain⟨b,g,G,i,rfl⟩:=s j a m o d ad;exact ay j b m g G i
  .obtain⟨b,g,G,i,rfl⟩:=s j a m o d ad;exact(aA j b m g G i).md
theorem afE{ag:Type}{b d:ag->E V}(g:∀a,(b a).map V.md=d a)(s:E ag):(s.map b).map (jv V.md)=s.map d:=by rw[List.map_map];exact pw cU
def ih.md{u:dw}{f:gk}{ag:Type}{b g:ag->E V}(l:∀a,(b a).map V.md=g a){sz Q:Nat}{s:E ag}{post:E cT}{h:fK}{r:cT}{aF:fK}
  (Y:ih u f (.c (.d_ sz 0 Q<|s.map g)::post) h r aF):ih u f (.c (.d_ sz 0 Q<|s.map b)::post) h r aF:=by
 intro rd x w P G k i;refine Y rd x w P G k λj a d=>?_
 cases j with
 |zero=>have⟨p,m,o⟩:=i 0 _ rfl;simp only[rf,h0]at d;subst d;refine⟨p,m,?_⟩;have:=h2.atc o.1;rw[afE l]at this;exact⟨this,trivial⟩
 |succ j=>exact i (j+1) a d
theorem A1{ag:Type}(i e sz Q:Nat){s:E ag}(d b:ag->E V)(o:∀a,(d a).map V.md=b a)(h:cO N.d1.Y i=B (.row e sz Q (s.map d)))(l:N.pre=T)(g:TS u K n (N.tf (N.d1.f3 i (.row e sz Q (s.map b)))) ah):TS u K n N ah:=by refine vg _ (λt w ⟨x,r⟩=>⟨x,(r.fo (r:=.row e sz Q<|s.map b) (aE:=w) h (λ_ _ a=>a) (fL.refl _ _) cU (λC=>C) λm=>?_).1⟩) l g;have⟨P,G,j,k⟩:=r.eV.gg i _ h;refine⟨P,G,by rw[fT]at j⊢;exact j,?_⟩;have:=(k.mono m).md;rwa[afE o]at this
variable{ag:Type}
def Yd(i e sz Q j aq:Nat)(f:ag->E V){s:E ag}{a:ag}(k:ag){b:E V}(d:s[j]?=B a)(l:lC (f a) aq b=f k)(aP:(decide (aq+F b<=F (f a))&&b.all V.one)=T)(h:N.fQ (Hn u)=B (i,e,sz,Q,s.map f,j,aq,b))(ar:N.ft n=T){g:E ag}(cR:B (s.set j k)=B g)
  (m:TS u K n (N.next<|(N.d1.f3 i<|.row e sz (F g)<|g.map f).put N.dst<|.eu []) ah):TS u K n N ah:=by
 cases cR;exact nE i e sz Q j aq f k d l aP h ar m
def ahT{P:fX}(i e sz j Q A:Nat)(f:ag->E V)(o:∀a,(f a).all V.one=T){d b:E ag}(c:cQ)(l:decide (A+F (c.cL b)<=F d)=T)(h:P.fQ (qk u)=B (i,e,sz,j,Q,d.map f,A,b.map f,c))(ar:P.ft n=T){k:Nat}(m:B (A+F (c.cL b))=B k){g:E ag}(cR:B (d.take A++c.cL b++d.drop (A+F (c.cL b)))=B g)
  (p:TD u K n (P.push ⟨P.need,P.dst,.c<|.row i k,B (i,.row e sz (F g)<|g.map f),Z,M,[]⟩) ah):TD u K n P ah:=by
 cases cR;cases m;exact QV i e sz j Q A f o c l h ar p
def WY(u:dw)(y:dy)(q:cP)(e sz:Nat)(ae:E (E V)):Prop:=∀x rd t w,lJ x rd t w q y->∃o aE P,(execOp t.eval y).run u w=.ok (.value o) aE/\Ext w aE/\aE.ownsRow 0 e sz o (F ae) P/\(∀l,o.ownBlock=B l->w.heap.size<=l)/\hK rd sz P ae/\(o=.slice M 0 0\/∃t n,o=.slice (B t) n n)
theorem aqq{e sz C:Nat}(f:ag->E V)(k:ag)(aa:E Nat){D:E V}{s:Int}{A:Nat}(z:h4 C s s=B A)(h:vK u q y=B (e,sz,C,D,s,s))(az:kp aa D=f k):WY u y q e sz ((fe A k).map f):=by
 unfold vK at h;split at h;rotate_left;cases h;rename_i ax a o cK;split at h;rotate_left;cases h;rename_i aG av aD au aB aA d ad;split at h;rotate_left;cases h;rename_i b ak;split at h;rotate_left;cases h;rename_i an N;split at h;rotate_left;cases h;rename_i ap;cases h;have⟨K,aC⟩:=ap;simp only[h4]at z;split at z;rotate_left;cases z;rename_i ai;cases z;have⟨ae,af,ah,ay⟩:=ai;intro x rd t w Q;have am:=hw<|Q.op a _ hD d;have ao:=hw<|Q.op o _ hD ad;have a3:=run_make (P:=u) w ax e b an aA ak N av au s s ae af ah I;simp only[execOp,cK,g3,am,ao,a3,gn,hM];have ar:F (f k)=b.size:=Xr;have aP:F ((fe s.toNat k).map f)=s.toNat:=dh;have aj:(madeCells an.cells<|s.toNat*b.size).size=s.toNat*b.size:=size_madeCells _ _;refine⟨_,_,(madeCells an.cells<|s.toNat*b.size).toList.take<|s.toNat*b.size,rfl,Ext.alloc _ _,⟨ahp,.inr ⟨w.heap.size,s.toNat,_,sD,ny _,heap_alloc_new w _,Xq,wI,aj,sD⟩⟩,λl aJ=>QO,⟨λa d=>?_,λj a m o d ad=>?_⟩,.inr cU⟩
 .obtain⟨ab,i,rfl⟩:=hT.1 d;rw[(U5.1 i).2];exact ar
 .rw[gy]at d;obtain⟨ab,i,rfl⟩:=gG.1 d;have hi:j<s.toNat:=by have:=(ie.1 i).1;simpa using this
  have aq:ab=k:=by rw[U6,dE hi]at i;cases i;rfl
  subst aq;have aw:m<b.size:=by have:=(ie.1 ad).1;omega
  rw[<-az]at ad;obtain⟨g,aE,S,rfl⟩:=tW aa _ m o ad;rw[gy]at S;obtain⟨p,P,rfl⟩:=gG.1 S;refine⟨p,?_,FJ g<|.cY p⟩;have al:j*b.size+m<s.toNat*b.size:=by have:(j+1)*b.size<=s.toNat*b.size:=j1 _ hi;rw[jZ,rh]at this;omega
  rw[jd,dE al];simp only[madeCells,v5,Oe];rw[pu fv];simp only[iq,U7,h0];rw[K,Nat.SX aw];rw[v5]at P;rw[getElem!_def,P]
theorem ahO{e sz:Nat}{ae:E (E V)}(i:Nat)(Y:WY u y q e sz ae)(N:hF ops y q=B T)(C:y.dst=B i)(ad:i<n)(A:i<1000000)(D:nh q i (B i)):
  km u K n ops y q ((q.f3 i<|.row e sz (F ae) ae).put (B i)<|.c<|.gQ i):=by
 refine nj N λx t w r aa ah s=>?_
 have⟨o,aE,P,G,d,k,j,m,ab⟩:=Y _ _ _ _ (r.kM.o y);unfold ln;rw[G];simp only[ly];have dI:=r.y3 i;have z:(x.iP i (o,undef) (0,0)).dM i=(o,undef):=rA;have⟨Q,b⟩:=dI.add (ai:=x.iP i (o,undef) (0,0)) (aE:=aE) (r:=.row e sz (F ae) ae) A D.drop (λe am=>yA) d (λl y a=>by simp only[er,z]at a;exact j l a) (λb=>⟨P,Xo,rfl,m.mono b⟩)
 have S:=Q.put (B i) cU (p:=o) (v:=.c<|.gQ i) (by simp only[fM,fA,ea];rw[z];exact cU)
 rw[C];exact s _ _ ⟨_,S.jU (λg=>(vU (q.f3 i<|.row e sz (F ae) ae) i _ g).symm) rfl⟩
def ait(i:Nat)(e sz:Nat){b:Nat}(f:ag->E V)(a:ag)(g:E Nat){d:E V}{s:Int}{A:Nat}(o:h4 b s s=B A)(p:kp g d=f a)(h:N.fQ (vK u)=B (e,sz,b,d,s,s))(ar:N.k2 n i=T)(q:TS u K n (N.next ((N.d1.f3 i (.row e sz (F (fe A a)) ((fe A a).map f))).put (B i) (.c (.gQ i)))) ah):TS u K n N ah:=by have⟨t,y,cK,G,j,k,l,m⟩:=GK ar;have:=ahO (K:=K) (ops:=t) i (aqq f a g o (jb h cK) p) G j k l m;rw[fT]at this;exact o8 cK this q
def V.MB:V->X V
 |.d_ q 1 n ae=>B<|.d_ q 1 n ae
 |a=>a.F_
def alw{rd:ez}{x:dY}{p:dp}{a o:V}(h:fA rd x p a)(ad:a.MB=B o):h2 rd p o:=by
 unfold V.MB at ad;split at ad
 .cases ad;exact .xl _ _ _ _ h.1 h.2
 .exact Gb h ad
def MC:E V->X (E V)
 |[]=>B []
 |a::ae=>match a.MB,MC ae with
  |some o,B b=>B<|o::b
  |_,_=>M
def aa0:∀(ae b:E V),MC ae=B b->F ae=F b/\∀(m:Nat) (o:V),b[m]?=B o->∃a,ae[m]?=B a/\a.MB=B o
 |[],b,h=>by cases h;exact⟨rfl,dh⟩
 |a::ae,b,h=>by
  simp only[MC]at h;split at h
  .rename_i k j G d;cases h;have⟨g,i⟩:=aa0 ae j d;refine⟨by simp[g],λm o ad=>?_⟩;cases m with
   |zero=>cases ad;exact⟨a,rfl,G⟩
   |succ m=>exact i m o ad
  .cases h
def ZJ(u:dw)(q:cP)(e:f1)(b:Nat)(i:E Nat)(jF:E (Nat×hp)):X (E (E V)):=match u.info? e,zn q jF with
 |some a,B k=>match a.zero with
  |some an=>match Bs (λj=>B (j*a.size,a.size)) (((Array.range<|b*a.size).map (an.cells[·%an.cells.size]!)).toList.map V.cY) k with
   |some d=>match MC d with
    |some g=>B<|(sO a.size b g).map<|kp i
    |none=>M
   |none=>M
  |none=>M
 |_,_=>M
def SO(u:dw)(d:E Nat)(q:cP)(y:dy):X (Nat×Nat×E (E V)):=match y.op with
 |.buildSlice g b jF=>match u.underlying g with
  |some (.slice e)=>match u.info? e with
   |some a=>if decide (0<b*a.size/\b*a.size<=16777216)&&a.zero.isSome then match ZJ u q e b d jF.toList with
     |some ae=>B (e,a.size,ae)
     |none=>M
    else M
   |none=>M
  |_=>M
 |_=>M
theorem aqp{e sz:Nat}{ae:E (E V)}{aa:E Nat}(h:SO u aa q y=B (e,sz,ae)):oZ u y q e sz ae:=by
 unfold SO at h;split at h;rotate_left;cases h;rename_i aK A jF cK;split at h;rotate_left;cases h;rename_i aG aA;split at h;rotate_left;cases h;rename_i b ag;split at h;rotate_left;cases h;rename_i ah;simp only[fz,i6]at ah;have⟨af,aN⟩:=ah;split at h;rotate_left;cases h;rename_i aQ i;cases h;intro x rd t w aB;unfold ZJ at i;rw[ag]at i;split at i;rotate_left;cases i;rename_i aO D ay az;cases ay;split at i;rotate_left;cases i;rename_i an N;split at i;rotate_left;cases i;rename_i k av;split at i;rotate_left;cases i;rename_i K aw;cases i;have⟨aH,aI⟩:=TC aB az λj z Y=>W5
 have⟨r,ai,aj⟩:=Ml _ D _ _ k aH aI (SP rd x _) av;have a3:=run_buildSlice (P:=u) w aK e A _ r b an aA ag N I I ai;simp only[execOp,cK,g3,a3,gn,hM];have⟨ao,ap⟩:=aa0 k K aw;have s:r.size=A*b.size:=by
  have ax:∀(D:E (Nat×dp)) (c P:Array dp),uz (λj=>B (j*b.size,b.size)) c D=B P->P.size=c.size:=by
   intro D;induction D with
   |nil=>intro c P C;cases C;rfl
   |cons z D aE=>
    intro c P C;have⟨m,v⟩:=z;simp only[uz]at C;split at C
    .cases C
    .have:=aE _ _ C;rw[this];have ab:zN (λk (a:dp×Nat)=>match a with|(c,aF)=>k.setIfInBounds (m*b.size+aF) c) c v.cells.zipIdx=(v.cells.toList.zipIdx 0).foldl (λk (z:dp×Nat)=>k.setIfInBounds (m*b.size+z.2) z.1) c:=by rw[<-Array.foldl_toList,Array.toList_zipIdx]
     have aD:zN (λk (a:dp×Nat)=>k.setIfInBounds (m*b.size+a.2) a.1) c v.cells.zipIdx=(v.cells.toList.zipIdx 0).foldl (λk (z:dp×Nat)=>k.setIfInBounds (m*b.size+z.2) z.1) c:=ab;first
      |rw[ab]
      |rw[aD]
     exact(Mm (m*b.size) v.cells.toList 0 c).1
  rw[ax _ _ _ ai];simp
 have aM:F K=A*b.size:=by rw[<-ao,<-aj.1,s]
 have aP:F ((sO b.size A K).map<|kp aa)=A:=ahm;refine⟨_,_,r.toList,rfl,Ext.alloc _ _,⟨ahn,.inr ⟨w.heap.size,A,r,sD,ny _,heap_alloc_new w _,Xq,?_,s,?_⟩⟩,λl aJ=>QO,⟨λa d=>?_,λj a m o d ad=>?_⟩⟩
 .unfold maxLen;have:A<=A*b.size:=Nat.le_mul_of_pos_right _ (Nat.pos_of_ne_zero λdI=>aho);omega
 .rw[aP,<-s,<-pz,List.take_length]
 .obtain⟨Q,S,rfl⟩:=hT.1 d;have⟨j,hi⟩:=xC S;rw[Bk];exact(FO b.size A K j Q I hi).1
 .rw[gy]at d;obtain⟨Q,S,rfl⟩:=gG.1 d;obtain⟨g,ak,aC,rfl⟩:=tW aa Q m o ad;have aq:=(FO b.size A K j Q I S).2 m ak aC;have⟨aL,ar,au⟩:=ap _ ak aq;have⟨p,al,am⟩:=aj.2 _ aL ar;exact⟨p,by simpa using al,FJ g (alw am au)⟩
def air(i:Nat)(e sz:Nat)(f:ag->E V)(a:E Nat)(s:E ag)(h:N.fQ (SO u a)=B (e,sz,s.map f))(ar:N.k2 n i=T)(b:TS u K n (N.next ((N.d1.f3 i (.fw e sz (F s))).put (B i) (.c (.d_ sz (i+2) (F s) (s.map f))))) ah):TS u K n N ah:=by refine LA (e:=e) (sz:=sz) (ae:=s.map f) i (λd y cK=>aqp<|jb h cK) ar ?_;rwa[fT]
def dY.p1(x:dY)(f:Nat->Nat):dY:=⟨λi=>x.dn (f i),λi=>x.dM (f i)⟩
def ea.pQ{rd:ez}{x:dY}(f:Nat->Nat){v:dp}{a:V}(g:ea rd x v (a.pn f)):ea rd (x.p1 f) v a:=by
 cases a with
 |d_ q tag n ae=>rcases tag with _|_|b<;>exact g
 |_=>exact g
def fA.pQ{rd:ez}{x:dY}(f:Nat->Nat){v:dp}{a:V}(g:fA rd x v (a.fD f)):fA rd (x.p1 f) v a:=by
 cases a with
 |gf c l=>have⟨d,G,b,i⟩:=g;refine⟨d,G,rz,λm o ad=>?_⟩;have⟨p,j,k⟩:=i m (o.pn f) (by rw[gy,ad];rfl);exact⟨p,j,k.pQ f⟩
 |d_ q tag n ae=>rcases tag with _|_|s<;>exact g
 |_=>exact g
def fM.pQ{rd:ez}{x:dY}(f:Nat->Nat){v:dp}{a:cT}(g:fM rd x v (a.map (V.fD f))):fM rd (x.p1 f) v a:=by
 have i:∀{d:Array dp} {i:E V},j3 rd x d (i.map<|V.fD f)->j3 rd (x.p1 f) d i:=by intro d i g;refine⟨by simpa using g.1,λm o ad=>?_⟩;have⟨p,G,b⟩:=g.2 m (o.fD f) (by rw[gy,ad];rfl);exact⟨p,G,b.pQ f⟩
 cases a with
 |c a=>exact fA.pQ f g
 |agg ae=>have⟨d,G,b⟩:=g;exact⟨d,G,i b⟩
 |eu ae=>
  have⟨d,G,b,s⟩:=g;refine⟨d,G,rz,λm a aw=>?_⟩;have⟨p,t,j⟩:=s m (a.1,a.2.map<|V.fD f) (by rw[gy,aw];rfl);refine⟨p,t,?_⟩;unfold p9 at*;simp only at j;split
  next q=>rw[dE q]at j;have⟨d,k,l⟩:=j;exact⟨d,k,i l⟩
  next q=>rw[dA q]at j;have⟨o,k,l⟩:=j;obtain⟨an,N,rfl⟩:=List.map_eq_singleton_iff.1 k;exact⟨an,N,l.pQ f⟩
theorem iv.pQ{rd:ez}{x:dY}{w:d2}(f:Nat->Nat){i:Nat}{r:eD}(g:iv rd x w (f i) (r.map (V.fD f))):iv rd (x.p1 f) w i r:=by
 cases r with
 |box d=>intro m o ad;have⟨p,G,a,b⟩:=g m (o.fD f) cU;exact⟨p,G,a,b.pQ f⟩
 |_=>exact g
def Mn(x:dY)(f:Nat->Nat)(i:Nat)(r:eD):er (x.p1 f) i r=er x (f i) r:=by funext l y;cases r<;>rfl
def B_(aF:fK)(S:Nat->Nat):E (Nat×Nat)->fK->fK
 |[],Y=>Y
 |(i,e)::s,Y=>match cO aF e with
  |some a=>hB i (a.map<|V.fD S)<|B_ aF S s Y
  |none=>B_ aF S s Y
theorem SU(aF:fK)(S:Nat->Nat)(Y:fK)(i:Nat):∀(s:E (Nat×Nat)),(∀C∈s,(cO aF C.2).isSome=T)->cO (B_ aF S s Y) i=match cO s i with
  |some e=>(cO aF e).map<|eD.map<|V.fD S
  |none=>cO Y i
 |[],_=>rfl
 |(d0,e)::s,b=>by
  have⟨a,d⟩:=lb.1<|b (d0,e) dh;simp only[B_,d,kZ,io];split
  .simp[d]
  .exact SU aF S Y i s ef
def k6(aF:fK)(e:Nat):Bool:=match cO aF e with
 |some a=>a.kr
 |none=>Z
def zh(dR:E (Nat×Nat))(e:Nat):Bool:=cO dR (fZ dR e)==B e
def s1(aF:fK)(a:E (Nat×Nat))(e:Nat):Bool:=(cO a (fZ a e)==B e)&& !k6 aF e
def vT(aF:fK)(a:E (Nat×Nat))(i:Nat):Bool:=match cO a i with
 |some e=>k6 aF e
 |none=>T
def cP.yM(q:cP)(aF:fK)(r:cT)(a:E (Nat×Nat))(dst:X Tmp):cP:=cP.put {q with Y:=B_ aF (fZ a) a q.Y} dst (r.map<|V.fD<|fZ a)
def L9(q:cP)(h aF:fK)(ak:E cT)(r:cT)(a dR:E (Nat×Nat))(dst:X Tmp):Bool:=
 (dR.all λC=>(cO h C.2).isSome&&decide (fZ dR C.2=C.1)&&decide (cO dR C.1=B C.2)&&(!k6 aF C.2||(decide (1000000<=C.2)&&k6 h C.2)))&&
 ((dR++a).all λC=>(cO aF C.2).isSome&&decide (fZ (dR++a) C.2=C.1)&&decide (cO (dR++a) C.1=B C.2))&&
 (a.all λC=> !k6 aF C.2&&decide (C.1<1000000)&&(cO q.Y C.1).isNone)&&
 (h.all λC=>zh dR C.1&&C.2.eY (V.fn<|zh dR))&&ak.all (λv=>v.eY<|V.fn<|zh dR)&&
 r.eY (V.fn<|s1 aF<|dR++a)&&(aF.all λC=>C.2.eY<|V.fn<|s1 aF<|dR++a)&&
 (q.tmps.all λC=>B C.1==dst||C.2.eY (V.fn<|vT aF<|dR++a))&&(q.Y.all λC=>(cO (dR++a) C.1).isSome||C.2.eY (V.fn<|vT aF<|dR++a))
def dY.w9(x ai:dY)(aF:fK)(a:E (Nat×Nat)):dY where
 dn:=λi=>match cO a i with
  |some e=>ai.dn e
  |none=>x.dn i
 dM:=λi=>match cO a i with
  |some e=>if k6 aF e then x.dM i else ai.dM e
  |none=>x.dM i
def yV(q:cP)(h aF:fK)(ak:E cT)(r:cT)(a dR:E (Nat×Nat)):Bool:=
 (dR.all λC=>(cO h C.2).isSome&&decide (fZ dR C.2=C.1)&&decide (cO dR C.1=B C.2)&&(!k6 aF C.2||(decide (1000000<=C.2)&&k6 h C.2)))&&
 ((dR++a).all λC=>(cO aF C.2).isSome&&decide (fZ (dR++a) C.2=C.1)&&decide (cO (dR++a) C.1=B C.2))&&
 (a.all λC=> !k6 aF C.2&&decide (C.1<1000000)&&(cO q.Y C.1).isNone)&&
 (h.all λC=>zh dR C.1&&C.2.eY (V.fn<|zh dR))&&ak.all (λv=>v.eY<|V.fn<|zh dR)&&
 r.eY (V.fn<|s1 aF<|dR++a)&&(aF.all λC=>C.2.eY<|V.fn<|s1 aF<|dR++a)
theorem XJ{f:gk}{a_ args:E cT}{aF:fK}{r:cT}{h:fK}(bw:E (E Nat))(aH dR:E (Nat×Nat))(bR:hF ops y q=B T)(bM:jB n y=T)(bI:lh q y=B (f,a_))(bc:iz u f=T)
  (bb:m3 bw a_=args.map (cT.map<|V.fD<|fZ dR))(b0:dR.map (λC=>cO q.Y C.1)=dR.map λC=>(cO h C.2).map<|eD.map<|V.fD<|fZ dR)(bp:yV q h aF args r aH dR=T)
  (bA:∀N v,cO q.tmps N=B v->(B N==y.dst||v.eY (V.fn<|vT aF<|dR++aH))=T)(b_:∀i a,cO q.Y i=B a->((cO (dR++aH) i).isSome||a.eY (V.fn<|vT aF<|dR++aH))=T)(Y:ih u f args h r aF):km u K n ops y q (q.yM aF r (dR++aH) y.dst):=by
 simp only[yV,fz,fp]at bp;have⟨⟨⟨⟨⟨⟨bz,a9⟩,b6⟩,b7⟩,ce⟩,b8⟩,b9⟩:=bp;generalize bg:dR++aH=b at*;have aD:∀e a,cO h e=B a->cO dR (fZ dR e)=B e/\cO q.Y (fZ dR e)=B (a.map<|V.fD<|fZ dR):=by
  intro e a d;have G:=(b7 (e,a)<|iM d).1;simp only[zh,beq_iff_eq]at G;refine⟨G,?_⟩;have ao:=iM G;have aZ:∀(s:E (Nat×Nat)),s.map (λC=>cO q.Y C.1)=s.map (λC=>(cO h C.2).map<|eD.map<|V.fD<|fZ dR)->∀C∈s,cO q.Y C.1=(cO h C.2).map (eD.map<|V.fD<|fZ dR):=by intro s cN C ap;have:=HH.1 cN;exact this C ap
  have al:=aZ dR b0 _ ao;simp only at al;rw[al,d];rfl
 have aP:∀i e,cO b i=B e->(cO aF e).isSome=T/\fZ b e=i:=by intro i e ae;have:=a9 (i,e)<|iM ae;exact⟨this.1.1,f8 this.1.2⟩
 have bG:∀C∈b,(cO aF C.2).isSome=T:=λC ap=>(a9 C ap).1.1
 have b4:∀i e,cO dR i=B e->cO b i=B e:=by intro i e ae;have G:=a9 (i,e) (by rw[<-bg];exact r9 _ (iM ae));exact f8 G.2
 have bD:∀i e,cO b i=B e->cO dR i=B e\/(k6 aF e=Z/\i<1000000/\cO q.Y i=M):=by
  intro i e ae;have bn:=iM ae;rw[<-bg]at bn;rcases gq.1 bn with G|G
  .exact .inl<|f8 (bz _ G).1.2
  .have ao:=b6 _ G;exact .inr ⟨by simpa using ao.1.1,f8 ao.1.2,by simpa using ao.2⟩
 refine nj bR λx t w A cc ah bF=>?_
 have bt:=A.kM.o y;have⟨P,G,ao,aZ⟩:=vp bI bc bt
 let aI:dY:=x.p1<|fZ dR;have bJ:=Y (fd K x q.Y w) aI w P bt.oy (by
   rw[G];have:=congrArg F bb;rw[FL,fT]at this;exact this) (λj o ad=>by
   have bv:(args.map<|cT.map<|V.fD<|fZ dR)[j]?=B (o.map<|V.fD<|fZ dR):=by rw[gy,ad];rfl
   rw[<-bb]at bv;have⟨b5,a,d,b3⟩:=Bj bw a_ j _ bv;have⟨p,aC,au⟩:=ao j a d;have bq:=tY b5 au;rw[<-b3]at bq;exact⟨p,aC,bq.pQ<|fZ dR⟩) (λe a d=>(A.eV.gg _ _ (aD e a d).2).pQ (fZ dR)) (λe az a aW l aS aR ax bP=>by
   rw[Mn,Mn];have⟨aC,au⟩:=aD e a ax;have⟨aL,aT⟩:=aD az aW bP;have:=A.eV.lR (fZ dR e) (fZ dR az) _ _ l aS (λap=>aR (by rw[ap,aL]at aC;exact(mg aC).symm)) au aT;rw[pg,pg]at this;exact this) (λl aS d=>by
   have⟨e,a,ax,aM⟩:=d;rw[Mn]at aM;exact TQ ⟨_,_,(aD e a ax).2,by rw[pg];exact aM⟩)
 unfold ln;rw[aZ];simp only[ly];refine bJ.mono λe aE ap=>?_
 obtain⟨p,ai,rfl,a8,bW,bT,bO,bU,bX⟩:=ap;simp only
 let aN:=x.w9 ai aF b
 let am:=B_ aF (fZ b) b q.Y;have bx:∀i,cO am i=match cO b i with
  |some e=>(cO aF e).map<|eD.map<|V.fD<|fZ b
  |none=>cO q.Y i:=λi=>SU aF _ q.Y i b bG
 have ba:∀i e,cO b i=B e->k6 aF e=T->cO dR i=B e/\ai.dn e=x.dn i/\∃ag,cO q.Y i=B (.box ag):=by
  intro i e ae av;rcases bD i e ae with D|D
  .have S:=bz (i,e) (iM D);have aq:1000000<=e/\k6 h e=T:=by have:=S.2;simp only[av,Bool.not_true,r7,fz,i6]at this;exact this
   have aJ:fZ dR e=i:=f8 S.1.1.2;refine⟨D,?_,?_⟩
   .unfold k6 at av;split at av
    .rename_i a d;cases a with
     |box ag=>rw[bW e ag aq.1 d];show x.dn (fZ dR e)=x.dn i;rw[aJ]
     |_=>cases av
    .cases av
   .have ar:=aq.2;unfold k6 at ar;split at ar
    .rename_i a d;cases a with
     |box ag=>have:=(aD e _ d).2;rw[aJ]at this;exact⟨_,this⟩
     |_=>cases ar
    .cases ar
  .rw[D.1]at av;cases av
 have a5:∀e,s1 aF b e=T->aN.dn (fZ b e)=ai.dn e/\aN.dM (fZ b e)=ai.dM e:=by intro e ax;simp only[s1,fz,beq_iff_eq,xA]at ax;simp only[aN,dY.w9,ax.1,ax.2,j0,if_false,and_self]
 let z:Nat->Bool:=vT aF b;have a3:∀i,z i=T->aN.dn i=x.dn i/\aN.dM i=x.dM i:=by
  intro i k;simp only[z,vT]at k;simp only[aN,dY.w9];cases bf:cO b i with
  |none=>simp only[and_self]
  |some e=>rw[bf]at k;simp only at k;simp only[k,if_true,and_true];exact(ba i e bf k).2.1
 let N:Nat->Bool:=λi=>(cO b i).isSome
 have bs:∀i,N i=Z->cO b i=M:=λi k=>by simpa[N]using k
 have Q:∀l aS,h7 aI h l aS->∃i r,N i=T/\cO q.Y i=B r/\er x i r l aS:=by rintro l aS ⟨e,a,d,aM⟩;rw[(J:aI=x.p1 (fZ dR)),Mn]at aM;have⟨aC,au⟩:=aD e a d;exact⟨_,_,by simp[N,b4 _ _ aC],au,by rw[pg];exact aM⟩
 have bm:fL w (λl y=>∃i r,N i=T/\cO q.Y i=B r/\er x i r l y) aE:=a8.kN Q;have aO:∀i e a,cO b i=B e->cO aF e=B a->er aN i (eD.map (V.fD<|fZ b) a)=er ai e a:=by
  intro i e a ae d;rw[pg];funext l aS;cases a with
  |box ag=>
   have af:k6 aF e=T:=by simp[k6,d,eD.kr]
   simp only[er,aN,dY.w9,ae]
  |row aG cb ca cg=>have af:k6 aF e=Z:=by simp[k6,d,eD.kr]
                    simp only[er,aN,dY.w9,ae,af,j0,if_false]
  |fw aG cb ca=>have af:k6 aF e=Z:=by simp[k6,d,eD.kr]
                simp only[er,aN,dY.w9,ae,af,j0,if_false]
  |dR L=>have af:k6 aF e=Z:=by simp[k6,d,eD.kr]
         simp only[er,aN,dY.w9,ae,af,j0,if_false]
  |g7 ak=>have af:k6 aF e=Z:=by simp[k6,d,eD.kr]
          simp only[er,aN,dY.w9,ae,af,j0,if_false]
 have aw:∀i r,N i=T->cO am i=B r->∃e a,cO b i=B e/\cO aF e=B a/\r=a.map (V.fD<|fZ b):=by
  intro i r k ay;rw[bx]at ay;cases bo:cO b i with
  |some e=>rw[bo]at ay;obtain⟨a,d,rfl⟩:=gG.1 ay;exact⟨e,a,rfl,d,rfl⟩
  |none=>simp[N,bo]at k
 have bj:∀i r l y,N i=T->cO am i=B r->er aN i r l y->(∃e eM,N e=T/\cO q.Y e=B eM/\er x e eM l y)\/w.heap.size<=l:=by
  intro i r l aS k ay an;obtain⟨e,a,al,D,rfl⟩:=aw i r k ay;rw[aO i e a al D]at an;rcases bT l aS ⟨e,a,D,an⟩with S|S
  .exact .inl<|Q l aS S
  .exact .inr S
 have aQ:∀i aa,N i=Z->cO am i=B aa->cO q.Y i=B aa:=by intro i aa k ay;rwa[bx,bs i k]at ay
 have a0:∀i r,N i=Z->cO q.Y i=B r->aN.dn i=x.dn i/\aN.dM i=x.dM i:=λi r k _=>a3 i (by simp[z,vT,bs i k])
 have a2:=ui (K:=K) (x:=x) (ai:=aN) (w:=w) (aE:=aE) (h:=q.Y) (aF:=am) A.eV N a0 (λi aa al D=>⟨aa,λo=>o,aQ i aa al D,aa.map_id.symm⟩) bm bj;have b2:yF w (h7 aI h) (fd K aN am aE) aE (h7 ai aF):=by
  refine λl aS aV bd d bK=>TR (ai:=aN) (aF:=am) A.eV (b:=h7 aI h) (λl aS bH aX=>?_) l aS aV bd ?_ bK
  .have⟨aA,aj,_,aT,aK⟩:=Q l aS bH;exact A.eV.may l aS ⟨aA,aj,aT,aK⟩ aX
  rintro⟨i,eM,aC,au⟩;cases k:N i with
  |false=>
   have aL:=aQ i eM k aC;rw[qZ (a0 i eM k aL)]at au;rcases bd with a1|a1
   .have:=(A.eV.gg i eM aL).lt au;omega
   .have⟨aA,aj,aU,a6,a7⟩:=Q l aS a1;exact A.eV.lR aA i aj eM l aS (λe=>by rw[e]at aU;rw[aU]at k;cases k) a6 aL a7 au
  |true=>obtain⟨e,a,al,D,rfl⟩:=aw i eM k aC;rw[aO i e a al D]at au;exact d ⟨e,a,D,au⟩
 have⟨b1,bS⟩:=bX _ a2 b2;have bE:nQ K aN aE am:=by
  refine A.eV.step (ai:=aN) (aE:=aE) (aF:=am) N (λo=>o) (V.fn z) a0 (λi aa al D=>⟨aa,aQ i aa al D,aa.map_id.symm,?_⟩) bm bj ?_ (λaV a d bL=>bL.sR a2 z a3 d) ?_ ?_ ?_
  .have:=b_ _ _ (aQ i aa al D);simp only[lc]at this;rcases this with S|S
   .simp only[N]at al;rw[al]at S;cases S
   .exact S
  .intro i aY r aa l aS k bN aR ay bZ an bk;obtain⟨e,a,S,aq,rfl⟩:=aw i r k ay;obtain⟨az,aW,aJ,ar,rfl⟩:=aw aY aa bN bZ;rw[aO i e a S aq]at an;rw[aO aY az aW aJ ar]at bk;refine bO e az a aW l aS (λbQ=>aR ?_) aq ar an bk;rw[<-(aP i e S).2,<-(aP aY az aJ).2,bQ]
  .intro i eM k ay;obtain⟨e,a,al,D,rfl⟩:=aw i eM k ay;have br:=b9 _ (iM D);have bl:=bS e a D;cases bh:k6 aF e with
   |false=>
    have bV:s1 aF b e=T:=by simp[s1,bh,(aP i e al).2,al]
    have:=bl.fD (ez.gU.refl _) (fZ b) (s1 aF b) a5 bV br;rwa[(aP i e al).2]at this
   |true=>
    cases a with
    |box ag=>intro m o ad;rw[gy]at ad;obtain⟨bC,bu,rfl⟩:=gG.1 ad;have⟨aV,aU,a6,a7⟩:=bl m bC bu;have a4:aN.dn i=ai.dn e:=ahB;rw[a4];exact⟨aV,aU,a6,a7.fD (ez.gU.refl _) (fZ b) (s1 aF b) a5<|fp.1 br bC<|lp bu⟩
    |_=>simp[k6,D,eD.kr]at bh
  .intro i cd k S ay;have⟨e,a,al,D,aq⟩:=aw i _ k ay;have af:k6 aF e=T:=by
    cases a with
    |box ag=>simp[k6,D,eD.kr]
    |_=>cases aq
   have⟨aC,au,ag,aL⟩:=ba i e al af;have a4:aN.dn i=ai.dn e:=ahB;rw[a4,au];exact A.eV.rL i ag S aL
  .intro i r k ay bc l aS an;obtain⟨e,a,al,D,rfl⟩:=aw i _ k ay;rw[aO i e a al D]at an;exact(bU e a D Xl l aS an).elim (λC=>.inl<|mY A.eV.gJ.size C) λC=>(la l K.r6.heap.size).elim (λau=>.inr ag7) .inl
 have bY:=(A.move bE a2 z a3 (match y.dst with|some N=>pS q.tmps N|none=>q.tmps) (λcf v ab=>by
  cases aB:y.dst with
  |none=>rw[aB]at ab;refine⟨ab,?_⟩;have:=bA _ _ ab;simpa[aB]using this
  |some bB=>
   rw[aB]at ab;simp only[t6]at ab;split at ab
   .cases ab
   .rename_i aR;refine⟨ab,?_⟩;have:=bA _ _ ab;simp only[aB,lc,beq_iff_eq,h0]at this;rcases this with al|al
    .exact absurd al aR
    .exact al)).put y.dst (nG bM) (b1.imp (λv a d g=>g.fD (ez.gU.refl _) (fZ b) (s1 aF b) a5 d) b8)
 refine bF _ _ ⟨aN,bY.jU (λg=>?_) ?_⟩
 .cases aB:y.dst with
  |none=>rfl
  |some bB=>simp only[cP.yM];exact(vU _ bB _ g).symm
 .cases aB:y.dst<;>rfl
theorem ahK{f:gk}{k args:E cT}{aF:fK}{r:cT}{h:fK}(j:E (E Nat))(b dR:E (Nat×Nat))(s:hF ops y q=B T)(p:jB n y=T)(o:lh q y=B (f,k))(m:iz u f=T)
  (l:m3 j k=args.map (cT.map<|V.fD<|fZ dR))(t:dR.map (λC=>cO q.Y C.1)=dR.map λC=>(cO h C.2).map<|eD.map<|V.fD<|fZ dR)(g:L9 q h aF args r b dR y.dst=T)(Y:ih u f args h r aF):km u K n ops y q (q.yM aF r (dR++b) y.dst):=by
 simp only[L9,fz,fp]at g;have⟨⟨⟨⟨⟨⟨⟨⟨A,D⟩,N⟩,P⟩,Q⟩,S⟩,aa⟩,x⟩,z⟩:=g;refine XJ j b dR s p o m l t ?_ (λad v ab=>x _ (iM ab)) (λi a d=>z _ (iM d)) Y;simp only[yV,fz,fp];exact ef
def Q2{f:gk}{ak:E cT}{r:cT}{h aF:fK}(d:E (E Nat))(a dR:E (Nat×Nat))(Y:ih u f ak h r aF)(m:N.callee d=B (f,ak.map (cT.map (V.fD (fZ dR)))))(ar:(N.ft n&&iz u f&&L9 N.d1 h aF ak r a dR N.dst)=T)
  (q:dR.map (λC=>cO N.d1.Y C.1)=dR.map λC=>(cO h C.2).map<|eD.map<|V.fD<|fZ dR)(g:TS u K n (N.next<|N.d1.yM aF r (dR++a) N.dst) ah):TS u K n N ah:=by
 simp only[fz]at ar;have⟨⟨o,p⟩,b⟩:=ar;have⟨s,y,cK,G,i,j⟩:=ph o;have⟨t,k,l⟩:=FI m cK;rw[j]at g b;exact o8 cK (ahK d a dR G i k p l q b Y) g
def FB(q:cP)(l m:Nat):X cP:=match q.lj l with
 |some a=>B<|q.f3 l<|.box<|a.set m .any
 |none=>M
def R.FB{t:Act}{w:d2}{q ao:cP}(h:R K n t w q){l m:Nat}(aj:FB q l m=B ao):R K n t w ao:=by
 have⟨x,h⟩:=h;unfold Go.Proofs.YtddmdeaegbfhaaaGreat.FB at aj;split at aj
 .rename_i b cN;cases aj;refine⟨x,h.G_ (za cN) sb λj a o d ad p aA=>?_⟩;rw[sa]at ad;split at ad
  .split at ad
   .cases ad;trivial
   .cases ad
  .rw[d]at ad;cases ad;exact aA
 .cases aj
def aib(l m:Nat)(a:N.pre=T)(g:TS u K n (N.ra (FB N.d1 l m)) ah):TS u K n N ah:=ve (λ_ _ _ aj r=>r.FB aj) a g
def NT(s:E UInt8)(j:Int):X Int:=if 0<=j then(s[j.toNat]?).map (λl=>(l.toNat:Int))else M
def Uc(u:dw)(q:cP)(y:dy):X (ByteArray×Int):=match y.op with
 |.index b a j=>match u.underlying b,dZ q a,dZ q j with
  |some .string,B (.c (.cY (.string l))),B (.c (.cY (.int _ v)))=>B (l,v)
  |_,_,_=>M
 |_=>M
def aqN{y:dy}{q:cP}{s:E UInt8}{j v:Int}(b:Uc u q y=B (np s,j))(ab:NT s j=B v):iH u y q (int cH v):=by
 intro x rd t w i;unfold Uc at b;split at b
 .rename_i z a o cK;split at b
  .rename_i l g an aA d ad;cases b;have G:=hw<|i.op _ _ hD d;have k:=hw<|i.op _ _ hD ad;unfold NT at ab;split at ab
   .rename_i dI;obtain⟨c,m,rfl⟩:=gG.1 ab;refine⟨.int cH c.toNat,?_,q3 _ _ _⟩;have aj:(np s)[j.toNat]?=B c:=by simp only[np];show(⟨s.toArray⟩:ByteArray)[j.toNat]?=B c;have aX:=(ie.1 m);have⟨aX,p⟩:=aX;rw[getElem?_pos _ _ (by show j.toNat<s.toArray.size;simpa using aX)];congr 1
    simp[execOp,cK,Instr.index,G,k,asIntOf,run_underlying aA,dI,aj]
   .cases ab
  .cases b
 .cases b
def aix(s:E UInt8)(j:Int){v:Int}(ab:NT s j=B v)(h:N.fQ (Uc u)=B (np s,j))(ar:N.ft n=T)(a:TS u K n (N.ret (int cH v)) ah):TS u K n N ah:=l8 _ ar (λd b cK=>(aqN (jb h cK) ab).jC) a
def BA(u:dw)(q:cP)(y:dy):Bool:=match y.op with
 |.makeMap b (B a)=>match u.underlying b,dZ q a with
  |some (.map _ _),B (.c (.cY (.int _ _)))=>T
  |_,_=>Z
 |_=>Z
theorem ahM{ops:Array dy}{y:dy}{q:cP}(i:Nat)(cK:BA u q y=T)(C:hF ops y q=B T)(s:y.dst=B i)(ab:i<n)(o:i<1000000)(A:nh q i (B i)):
  km u K n ops y q ((q.f3 i<|.dR []).put (B i)<|.c<|.dk i):=by
 refine nj C λx t w r S ah m=>?_
 obtain⟨b,a,ad,j,g,v,cK,aA,d⟩:∃b a ad j g v,y.op=.makeMap b (B a)/\u.underlying b=B (.map ad j)/\dZ q a=B (.c (.cY (.int g v))):=by
  unfold BA at cK;split at cK
  .rename_i b a ae;split at cK
   next ad j g v G aa=>exact ef
   .cases cK
  .cases cK
 have N:t.eval a=.int g v:=hw<|(r.kM.o y).op a _ hD d;unfold ln;simp only[execOp,cK,iq,Vk,N,asInt,g3,run_underlying aA,hM,run_newObj_alloc,gn,ly];have dI:=r.y3 i;have z:(x.iP i (.map<|B w.heap.size,undef) (0,0)).dM i=(.map<|B w.heap.size,undef):=rA;have⟨P,D⟩:=dI.add (ai:=x.iP i (.map<|B w.heap.size,undef) (0,0)) (aE:=w.alloc<|.map #[] 0) (r:=.dR []) o A.drop (λe am=>yA) (Ext.alloc w _) (λl y k=>by simp only[er,z]at k;cases k;exact jq _) (λD=>⟨w.heap.size,#[],0,E7,heap_alloc_new w _,rfl⟩)
 have Q:=P.put (B i) cU (p:=.map<|B w.heap.size) (v:=.c<|.dk i) (by simp only[fM,fA,ea];rw[z];exact cU)
 rw[s];exact m _ _ ⟨_,Q.jU (λg=>(vU (q.f3 i<|.dR []) i _ g).symm) rfl⟩
def dT.BA(u:dw)(N:dT):Bool:=match N.op with
 |some (_,y)=>Go.Proofs.YtddmdeaegbfhaaaGreat.BA u N.d1 y
 |none=>Z
def Q6(i:Nat)(hi:N.BA u=T)(ar:N.k2 n i=T)(g:TS u K n (N.next ((N.d1.f3 i (.dR [])).put (B i) (.c (.dk i)))) ah):TS u K n N ah:=by have⟨k,y,cK,G,a,b,d,j⟩:=GK ar;unfold dT.BA at hi;rw[cK]at hi;exact o8 cK (ahM i hi G a b d j) g
def V.asm(b:Nat):V->V
 |.d_ q _ n ae=>.d_ q b n ae
 |a=>a
def SW(f:V->V):Nat->E V->E V
 |_,[]=>[]
 |0,c::a=>f c::a
 |n+1,c::a=>c::SW f n a
def eT(s:E (Nat×Nat))(a:E V):E V:=s.foldl (λa z=>SW (V.asm z.2) z.1 a) a
def gw(s:E (Nat×V))(a:E V):E V:=s.foldl (λa z=>SW (λ_=>z.2) z.1 a) a
def ia:V:=.cY (.slice M 0 0)
def d7{ag:Type}(q a:Nat)(f:ag->E V)(s:E ag):V:=.d_ q a (F s) (s.map f)
def d5{ag:Type}(e q:Nat)(f:ag->E V)(s:E ag):eD:=.row e q (F s) (s.map f)
def cW{ag:Type}(e q:Nat)(s:E ag):eD:=.fw e q (F s)
def ML:V->Nat
 |.d_ q 0 _ _=>q+1
 |_=>0
def MN:cT->E (E Nat)
 |.c a=>[[ML a]]
 |.agg b=>[b.map ML]
 |.eu d=>d.map λv=>v.2.map ML
def al7:eD->E Nat
 |.box a=>a.map ML
 |_=>[]
def MM(h:fK):E (Nat×E Nat):=h.map λC=>(C.1,al7 C.2)
def akn{u:dw}{f:gk}{a:n5}{c:k7}{args:E cT}{h aF:fK}{r:cT}(n:Nat)(d:u.funcs[f]?=B a)(b:a.body=B c)(ax:∀K,TS u K n (.mk [.code c] .normal ⟨lV 0 args,h⟩) (Hb u a (MN r) (MM aF) r aF))(cR:a.ntmps=n:=by kernel_rfl)(cN:decide (F args<=n/\n<=2000000)=T:=by kernel_rfl):ih u f args h r aF:=RW (MN r) (MM aF) n d b cR cN ax
def alz{q ao:cP}(h:hs q ao){C:Nat×Nat×Nat×Nat×Nat×Nat×E (E V)×Int×E (E V)}(ap:y7 q y=B C):y7 ao y=B C:=by
 unfold y7 at ap⊢;split at ap
 .rename_i f i j d a;rw[h.callee a];simp only;split at ap
  next e sz Q ae g k l cN b=>rwa[h.h _ _ cN,h.h _ _ b]
  .cases ap
 .cases ap
def ah2{f i l e sz k Q:Nat}{j:Int}(b:ag->E V)(x:∀a,(b a).all V.one=T)(p:yu u f e sz k){s d:E ag}{a:ag}(t:q1 k s j a=B d)(h:P.fQ y7=B (f,i,l,e,sz,Q,s.map b,j,[b a]))(ar:(P.ft n&&iz u f&&decide (0<sz))=T)
  (g:TD u K n (P.push ⟨P.need,P.dst,.c<|.dk i,B (i,.row e sz (F d)<|d.map b),Z,B ⟨[i],[],[],[],[]⟩,[]⟩) ah):TD u K n P ah:=by
 simp only[fz]at ar;have⟨z,y,cK,G,m,o⟩:=rN ar.1.1;rw[o]at g;refine q8 cK (λK q aj _=>?_) rfl g;exact XL b x p t (alz aj<|jW h cK) ar.2 ar.1.2 (aj.guard G) m
def aar(h:hs q ao){a:V}{g:Nat}(b:(rJ g (t3 q a)).il=T):t3 ao a=t3 q a:=by
 cases a with
 |dk i=>
  unfold t3 at b⊢;simp only at b⊢;split at b
  next e sz n ae cN=>rw[h.h _ _ cN]
  .exfalso;cases g<;>simp[rJ,V.il,V.fn,V.hZ]at b
 |_=>rfl
def Sg(h:hs q ao):∀(i:E Nat) (b:E V),(kp i (b.map (t3 q))).all V.il=T->b.map (t3 ao)=b.map (t3 q)
 |_,[],_=>rfl
 |[],a::b,d=>by simp only[hx,kp,v1,fz]at d⊢;rw[aar (g:=0) h d.1,Sg h [] b (by cases b<;>first|rfl|exact d.2)]
 |g::i,a::b,d=>by simp only[hx,kp,v1,fz]at d⊢;rw[aar h d.1,Sg h i b d.2]
def aav(h:hs q ao){a:E Nat}{v ak:cT}(g:vz q a v=B ak):vz ao a v=B ak:=by
 unfold vz at g⊢;split at g
 .split at g
  next cN=>rwa[h.h _ _ cN]
  .cases g
 .split at g
  next aj=>rwa[h.mU aj]
  .cases g
 .exact g
def ak5(h:hs q ao){b:E Nat}{v ak:cT}(g:vA q b v=B ak)(i:ak.eY V.il=T):vA ao b v=B ak:=by
 cases v with
 |c a=>exact aav h g
 |eu j=>exact aav (v:=.eu j) h g
 |agg d=>simp only[vA,h0]at g⊢;subst g;rw[Sg h b d i]
def aat(h:hs q ao):∀(b:E (E Nat)) (d a:E cT),sS q b d=B a->a.all (λv=>v.eY V.il)=T->sS ao b d=B a
 |_,[],_,g,_=>g
 |b,v::d,a,g,i=>by
  simp only[sS]at g⊢;split at g
  next ak j G k=>cases g;simp only[v1,fz]at i;rw[ak5 h G i.1,aat h b.tail d j k i.2]
  .cases g
def fX.FH(P:fX)(a:E (E Nat)):X (gk×E cT):=match P.op with
 |some (_,y)=>match lh P.need y with
  |some (f,b)=>(sS P.need a b).map λak=>(f,ak)
  |none=>M
 |none=>M
theorem asU{ao:cP}{f:gk}{l ak:E cT}{i e:Nat}{r:cT}{b:eD}(k:E (E Nat))(af:hF ops y ao=B T)(j:y.dst=B i)(aa:i<n)(S:i<1000000)(ad:e<1000000)(P:lh ao y=B (f,l))(D:iz u f=T)(x:sS ao k l=B ak)(Q:ak.all (λv=>v.eY V.il)=T)(o:b.kr=Z)(ay:r.eY (V.fn (ms [(i,e)]))=T)(am:r.eY V.pZ=T)(ag:zf [(e,b)])(Y:ih u f ak [] r [(e,b)]):
  mo u n ops y ⟨ao,B i,r.map<|V.fD<|fZ [(i,e)],B (i,b),T,M,[]⟩:=by
 intro K q aj cR;have ai:st i q:=cR.1 rfl;have⟨aq,ar,au⟩:=ai;have N:fZ [(i,e)] e=i:=by simp[fZ]
 have al:∀a,(cO [(i,e)] a).isNone=(a !=i):=by
  intro a;rw[io];by_cases d:i=a
  .subst d;simp
  .rw[dA d];simp[cO];exact λh=>d h.symm
 have m:(λa=>(cO [(i,e)] a).isNone)=λa=>a !=i:=funext al
 have ae:∀z,b.eY z=T:=by
  intro z;cases b with
  |box s=>cases o
  |row _ _ _ _=>rfl
  |fw _ _ _=>rfl
  |dR _=>rfl
  |g7 _=>rfl
 have:=XH (u:=u) (K:=K) (n:=n) (ops:=ops) (y:=y) (q:=q) k [(i,e)] (aj.guard af) (by simp[jB,j,aa]) (aj.callee P) D (aat aj k l ak x Q)
  (by intro z an;rw[gO.1 an];exact⟨⟨⟨⟨⟨QS,by simpa using S⟩,by simpa using N⟩,QS⟩,by simp[aq]⟩,by simpa using ad⟩)
  (by
    intro p v ab;rw[j,m];by_cases ax:p=i
    .subst ax;simp
    .rw[ar p v ab ef,U9])
  (by intro t r ay;rw[m];exact au t r ay)
  ay
  (by intro C ap;rw[gO.1 ap];simp[ae])
  am ag Y
 refine this.jU ?_;have ah:∀A,b.map A=b:=by
  intro A;cases b with
  |box s=>cases o
  |row _ _ _ _=>rfl
  |fw _ _ _=>rfl
  |dR _=>rfl
  |g7 _=>rfl
 have aG:q.after [(e,b)] r [(i,e)] M y.dst=cP.put {q with Y:=(i,b)::q.Y} (B i) (r.map<|V.fD<|fZ [(i,e)]):=by rw[j];simp[cP.after,t7,y5,io,ah]
 rw[aG];refine⟨λg=>rfl,λg=>?_⟩;simp only[ec.cL,ec.pre,uj,ug,cP.f3];rw[io,kZ]
def vX{i sz Q:Nat}{ae:E (E V)}{a:V}(h:a.hZ (·!=i)=T):a.q_ i sz Q ae=a:=by cases a<;>simp[V.hZ,V.q_,V.ho]at h⊢<;>exact λe=>absurd e h
def arU{i sz Q:Nat}{ae:E (E V)}{a:V}(h:a.fn (·!=i)=T):a.ks i sz Q ae=a:=by
 cases a with
 |gf f b=>simp only[V.ks];rw[sW λo ad=>vX<|fp.1 h o ad]
 |cY p=>rfl
 |e1 p=>rfl
 |d_ t l c e=>rfl
 |box t l=>exact vX (sz:=sz) (Q:=Q) (ae:=ae) (a:=.box t l) h
 |dk t=>exact vX (sz:=sz) (Q:=Q) (ae:=ae) (a:=.dk t) h
 |row t l=>exact vX (sz:=sz) (Q:=Q) (ae:=ae) (a:=.row t l) h
 |ip t l c=>exact vX (sz:=sz) (Q:=Q) (ae:=ae) (a:=.ip t l c) h
 |sub t l c e=>exact vX (sz:=sz) (Q:=Q) (ae:=ae) (a:=.sub t l c e) h
 |hn t l c e=>exact vX (sz:=sz) (Q:=Q) (ae:=ae) (a:=.hn t l c e) h
 |gQ t=>exact vX (sz:=sz) (Q:=Q) (ae:=ae) (a:=.gQ t) h
 |hV t l c=>exact vX (sz:=sz) (Q:=Q) (ae:=ae) (a:=.hV t l c) h
 |any=>rfl
def t8{i:Nat}{a:V}(h:a.hZ (·!=i)=T):w_ i a=T:=by
 cases a with
 |d_ q tag n ae=>
  rcases tag with _|_|b
  .simp[w_]
  .simp[w_]
  .simpa[V.hZ,w_]using h
 |_=>rfl
def abO{i:Nat}{a:V}(h:a.fn (·!=i)=T):vO i a=T:=by
 cases a with
 |gf f b=>exact fp.2 λo ad=>t8<|fp.1 h o ad
 |cY p=>rfl
 |e1 p=>rfl
 |d_ t l c e=>exact t8 (a:=.d_ t l c e) h
 |box t l=>exact t8 (a:=.box t l) h
 |dk t=>exact t8 (a:=.dk t) h
 |row t l=>exact t8 (a:=.row t l) h
 |ip t l c=>exact t8 (a:=.ip t l c) h
 |sub t l c e=>exact t8 (a:=.sub t l c e) h
 |hn t l c e=>exact t8 (a:=.hn t l c e) h
 |gQ t=>exact t8 (a:=.gQ t) h
 |hV t l c=>exact t8 (a:=.hV t l c) h
 |any=>rfl
def asi{A:V->V}{z:V->Bool}(h:∀a,z a=T->A a=a):∀{v:cT},v.eY z=T->v.map A=v
 |.c a,ab=>by rw[cT.map,h a ab]
 |.agg b,ab=>by rw[cT.map,sW λo ad=>h o<|fp.1 ab o ad]
 |.eu d,ab=>by rw[cT.map,sW λo ad=>?_];rw[sW λan N=>h an<|fp.1 (fp.1 ab o ad) an N]
def aen{z C:V->Bool}(h:∀a,z a=T->C a=T):∀{r:eD},r.eY z=T->r.eY C=T
 |.box _,ay=>fp.2 λo ad=>h o<|fp.1 ay o ad
 |.row _ _ _ _,_=>rfl
 |.fw _ _ _,_=>rfl
 |.dR _,_=>rfl
 |.g7 _,_=>rfl
def arq{A:V->V}{z:V->Bool}(h:∀a,z a=T->A a=a):∀{r:eD},r.eY z=T->r.map A=r
 |.box b,ab=>by rw[eD.map,sW λo ad=>h o<|fp.1 ab o ad]
 |.row _ _ _ _,_=>rfl
 |.fw _ _ _,_=>rfl
 |.dR _,_=>rfl
 |.g7 _,_=>rfl
def as1{ao:cP}{i e sz Q:Nat}{v:cT}{ae:E (E V)}(ab:mo u n ops y ⟨ao,B i,v,B (i,.row e sz Q ae),T,M,[]⟩)(ax:v.eY (vO i)=T):mo u n ops y ⟨ao,B i,v.map (V.ks i sz Q ae),B (i,.fw e sz Q),T,M,[]⟩:=by
 intro K q aj cR;have D:=ab K q aj cR;have⟨P,l,m⟩:=cR.1 rfl;have k:∀a:V,a.fn (·!=i)=T->a.ks i sz Q ae=a:=λa h=>arU h
 intro t w r o s A;refine D t w r o s λx aE N=>A x aE ?_
 have cN:cO (ec.cL ⟨ao,B i,v,B (i,.row e sz Q ae),T,M,[]⟩ q).Y i=B (.row e sz Q ae):=by rw[oj];simp[ec.qu,ec.oC,cO]
 have j:∀b,cO (ec.cL ⟨ao,B i,v,B (i,.row e sz Q ae),T,M,[]⟩ q).tmps b=if i=b then B v else cO q.tmps b:=by intro b;rw[ql];simp[ec.lt,ec.kt]
 have g:∀b,cO (ec.cL ⟨ao,B i,v,B (i,.row e sz Q ae),T,M,[]⟩ q).Y b=if i=b then B (.row e sz Q ae)else cO q.Y b:=by intro b;rw[oj];by_cases h:i=b<;>simp[ec.qu,ec.oC,ec.nq,cO,h]
 refine(N.aeB cN (λb p aA=>?_) λb p aA=>?_).jU ⟨λb=>?_,λb=>?_⟩
 .rw[j]at aA;split at aA
  .cases aA;exact ax
  next aR=>exact R_ (λa d=>abO d)<|l b p aA (by intro h;cases h;exact aR rfl)
 .rw[g]at aA;split at aA
  .cases aA;rfl
  .exact aen (λa d=>abO d)<|m b p aA
 .rw[ql];simp only[cP.f3,cP.iJ,ec.lt,ec.kt];rw[show cO ((ec.cL ⟨ao,B i,v,B (i,.row e sz Q ae),T,M,[]⟩ q).tmps.map λz=>(z.1,z.2.map<|V.ks i sz Q ae)) b=(cO (ec.cL ⟨ao,B i,v,B (i,.row e sz Q ae),T,M,[]⟩ q).tmps b).map (cT.map<|V.ks i sz Q ae)from MV _ _ _,j];by_cases h:i=b
  .subst h;simp
  .rw[dA h,dA qe];cases aA:cO q.tmps b with
   |none=>rfl
   |some p=>rw[iq,asi k (l b p aA (by intro C;cases C;exact h rfl))]
 .rw[oj];simp only[cP.f3,cP.iJ,kZ,ec.qu,ec.oC,ec.nq,cO];by_cases h:i=b
  .subst h;simp
  .rw[dA h];rw[show cO ((ec.cL ⟨ao,B i,v,B (i,.row e sz Q ae),T,M,[]⟩ q).Y.map λz=>(z.1,z.2.map<|V.ks i sz Q ae)) b=(cO (ec.cL ⟨ao,B i,v,B (i,.row e sz Q ae),T,M,[]⟩ q).Y b).map (eD.map<|V.ks i sz Q ae)from MV _ _ _,g,dA h];cases aA:cO q.Y b with
   |none=>simp[h]
   |some p=>rw[iq,arq k (m b p aA)];simp[h]
def ahV{f:gk}{ak:E cT}{r:cT}{b sz Q:Nat}{ae:E (E V)}(d:E (E Nat))(i e:Nat)(Y:ih u f ak [] r [(e,.row b sz Q ae)])(a:P.FH d=B (f,ak))(z:zf [(e,.row b sz Q ae)])(ar:(P.k2 n i&&iz u f&&decide (e<1000000)&&ak.all (λv=>v.eY V.il)&&r.eY (V.fn (ms [(i,e)]))&&r.eY V.pZ&&(r.map (V.fD (fZ [(i,e)]))).eY (vO i))=T)
  (g:TD u K n (P.push ⟨P.need,B i,(r.map<|V.fD<|fZ [(i,e)]).map<|V.ks i sz Q ae,B (i,.fw b sz Q),T,M,[]⟩) ah):TD u K n P ah:=by
 simp only[fz,i6]at ar;have⟨⟨⟨⟨⟨⟨aS,aN⟩,a2⟩,j⟩,k⟩,l⟩,m⟩:=ar;have⟨D,y,cK,G,o,p,q⟩:=GJ aS;unfold fX.FH at a;rw[cK]at a;simp only at a;split at a
 next C N s=>have⟨A,t,x⟩:=gG.1 a;cases x;exact q8 cK (as1 (asU d G o p q a2 s aN t j rfl k l z Y) m) rfl g
 .cases a
def aex{z C:Nat->Bool}{a:V}(h:a.hZ z=T)(g:a.hZ C=T):a.hZ (λi=>z i&&C i)=T:=by
 cases a with
 |d_ q tag n ae=>rcases tag with _|_|b<;>first|rfl|(simp only[V.hZ]at h g⊢;simp[h,g])
 |_=>first|rfl|(simp only[V.hZ]at h g⊢;simp[h,g])
def arK{z C:Nat->Bool}{a:V}(h:a.fn z=T)(g:a.fn C=T):a.fn (λi=>z i&&C i)=T:=by
 rcases FP a with⟨f,b,rfl⟩|d
 .exact fp.2 λo ad=>aex (fp.1 h o ad)<|fp.1 g o ad
 .rw[NK d]at h g⊢;exact aex h g
theorem He{a:V}:∀{L:E Nat},(∀A∈L,a.fn (·!=A)=T)->a.fn (nH L)=T
 |[],_=>by
  have:nH []=λ_=>T:=by funext i;simp[nH]
  rw[this];exact V.B9 a
 |l::L,h=>by have G:=arK (h l dh) (He (L:=L) λA d=>h A cU);exact Hd (λi b=>by simp[nH]at b⊢;exact b) G
def akI{v:cT}{L:E Nat}(h:∀A∈L,v.eY (V.fn (·!=A))=T):v.eY (V.fn (nH L))=T:=by
 cases v with
 |c a=>exact He h
 |agg g=>exact fp.2 λo ad=>He λA b=>fp.1 (h A b) o ad
 |eu i=>exact fp.2 λa d=>fp.2 λo ad=>He λA b=>fp.1 (fp.1 (h A b) a d) o ad
def arr{v:eD}{L:E Nat}(h:∀A∈L,v.eY (V.fn (·!=A))=T):v.eY (V.fn (nH L))=T:=by
 cases v with
 |box b=>exact fp.2 λo ad=>He λA a=>fp.1 (h A a) o ad
 |_=>rfl
def ash(v:cT):v.map (V.lX [])=v:=by
 have h:V.lX []=λa=>a:=by funext a;rfl
 rw[h];cases v with
 |c a=>rfl
 |agg b=>simp[cT.map]
 |eu d=>simp[cT.map]
def arp(v:eD):v.map (V.lX [])=v:=by
 have h:V.lX []=λa=>a:=by funext a;rfl
 rw[h];cases v with
 |box b=>simp[eD.map]
 |_=>rfl
def SI{i:ec}(h:∀l,i.li=B l->l.m9=[])(a:X cT):i.kt a=a:=by
 unfold ec.kt;split
 .rename_i l b;rw[h l b];cases a with
  |none=>rfl
  |some v=>exact congrArg B<|ash v
 .rfl
def SB{i:ec}(h:∀l,i.li=B l->l.m9=[])(g:Nat)(a:X eD):i.nq g a=a:=by
 unfold ec.nq;split
 .rename_i l b;cases a with
  |none=>rfl
  |some v=>
   refine congrArg B ?_;unfold pG.res;rw[h l b];split
   .rfl
   .exact arp v
 .rfl
def xt(aF:fK)(S:Nat->Nat)(b:E Nat):E (Nat×Nat)->E (Nat×eD)
 |[]=>[]
 |C::s=>match b.contains C.1,cO aF C.2 with
  |true,B a=>(C.1,a.map<|V.fD S)::xt aF S b s
  |_,_=>xt aF S b s
theorem abp{aF:fK}{S:Nat->Nat}{b:E Nat}{g:Nat}:∀{s:E (Nat×Nat)},(∀C∈s,(cO aF C.2).isSome=T)->cO (xt aF S b s) g=if b.contains g then(match cO s g with|some e=>(cO aF e).map (eD.map (V.fD S))|none=>M)else M
 |[],_=>by simp[xt,cO]
 |(t,e)::s,k=>by
  have⟨a,d⟩:=lb.1<|k (t,e) dh;have j:=abp (S:=S) (b:=b) (g:=g) (s:=s) λC ap=>k C cU
  simp only[xt,d];by_cases i:t=g
  .subst i;cases l:b.contains t with
   |true=>simp[io,d]
   |false=>simp only[j0,if_false];rw[j,l];simp
  .cases l:b.contains t with
   |true=>simp only[io,dA i];exact j
   |false=>simp only[io,dA i];exact j
def vY(aF:fK)(S:Nat->Nat):E (Nat×Nat)->X (Nat×eD)
 |(i,e)::_=>match cO aF e with
  |some a=>B (i,a.map<|V.fD S)
  |none=>M
 |[]=>M
def vr(Y:fK)(l m:Nat):X V:=match cO Y l with
 |some (.box a)=>a[m]?
 |_=>M
theorem RP{Y:fK}{l m:Nat}{c:V}(h:vr Y l m=B c):∃a,cO Y l=B (.box a)/\a[m]?=B c:=by
 unfold vr at h;split at h
 next a cN=>exact cU
 .cases h
def vv(ao:cP)(dst:X Tmp)(aF:fK)(r:cT)(a dR:E (Nat×Nat))(b d:E Nat)(eO:Nat)(g:E Nat):ec:=⟨ao,dst,r.map<|V.fD<|fZ<|dR++a,vY aF (fZ<|dR++a) a,!a.isEmpty,B ⟨[],pj dR,d,g.map λm=>(eO,m),[]⟩,xt aF (fZ<|dR++a) b dR⟩
def L_(ao:cP)(h aF:fK)(ak:E cT)(r:cT)(a dR:E (Nat×Nat))(b i:E Nat)(eO:Nat)(d:E Nat)(dst:X Tmp):Bool:=
 yV ⟨[],[]⟩ h aF ak r a dR&&(a.all λC=>(cO dR C.1).isNone&&dst==B C.1)&&decide (F a<=1)&&
 ((dR++a).all λC=>k6 aF C.2||i.contains C.1||(pj a).contains C.1)&&b.all (λg=>(cO dR g).isSome)&&(d.isEmpty||(b.contains eO&&(cO dR eO).isSome))&&d.all λm=>(vr ao.Y eO m).isSome
theorem asV{ao:cP}{f:gk}{aP args:E cT}{aF:fK}{r:cT}{h:fK}(aB:E (E Nat))(b dR:E (Nat×Nat))(k z:E Nat)(eO:Nat)(Q:E Nat)(aY:hF ops y ao=B T)(m:jB n y=T)(aV:lh ao y=B (f,aP))(aa:iz u f=T)
  (aU:m3 aB aP=args.map (cT.map<|V.fD<|fZ dR))(aw:dR.map (λC=>cO ao.Y C.1)=dR.map λC=>(cO h C.2).map<|eD.map<|V.fD<|fZ dR)(az:(dR.filter λC=> !k.contains C.1).map (λC=>cO ao.Y C.1)=(dR.filter λC=> !k.contains C.1).map λC=>(cO aF C.2).map<|eD.map<|V.fD<|fZ<|dR++b)
  (av:L_ ao h aF args r b dR k z eO Q y.dst=T)(Y:ih u f args h r aF):mo u n ops y (vv ao y.dst aF r b dR k z eO Q):=by
 intro K q aj cR;simp only[L_,fz,i6]at av;have⟨⟨⟨⟨⟨⟨aS,aN⟩,a2⟩,ak⟩,a4⟩,a5⟩,a6⟩:=av;have aR:=aS;simp only[yV,fz]at aS;have⟨⟨⟨⟨⟨⟨ag,P⟩,aH⟩,a0⟩,a1⟩,aI⟩,aJ⟩:=aS;rw[fp]at ag P aN ak;have⟨aK,aL,a3⟩:=cR;have am:=aL _ rfl;have D:∀C∈dR++b,(cO aF C.2).isSome=T:=λC ap=>by have:=P C ap;simp only[fz]at this;exact this.1.1
 have aq:∀C∈dR,(cO aF C.2).isSome=T:=λC ap=>D C cU
 have ae:∀i e,cO dR i=B e->cO (dR++b) i=B e:=λi e o=>by have:=P (i,e)<|r9 _ (iM o);simp only[fz,i6]at this;exact this.2
 have x:∀i e,(i,e)∈b->cO (dR++b) i=B e/\cO dR i=M/\y.dst=B i/\b=[(i,e)]:=λi e o=>by
  have G:=P (i,e) cU;have p:=aN (i,e) o;simp only[fz,i6,beq_iff_eq,zz]at G p;refine⟨G.2,p.1,p.2,?_⟩
  match b,a2,o with
  |[C],_,o=>rw[gO.1 o]
  |_::_::_,a2,_=>simp at a2
 have ah:∀i e,(i,e)∈b->st i q:=λi e o=>by
  have⟨G,p,a7,ad⟩:=x i e o;have aT:(vv ao y.dst aF r b dR k z eO Q).name=i:=by have⟨a,d⟩:=lb.1<|D (i,e) cU;simp only at d;simp[ec.name,vv,ad,vY,d]
  have:=aK (by simp[vv,ad]);rwa[aT]at this
 have aC:∀i,cO (dR++b) i=M->cO dR i=M/\∀e,(i,e)∉b:=λi m=>by
  refine⟨?_,λe t=>by rw[(x i e t).1]at m;cases m⟩;cases j:cO dR i with
  |none=>rfl
  |some e=>rw[ae i e j]at m;cases m
 have aE:∀i e,cO (dR++b) i=B e->cO dR i=B e\/(i,e)∈b:=λi e o=>by
  rcases gq.1 (iM o)with G|G
  .have:=ag _ G;simp only[fz,i6]at this;exact .inl this.1.2
  .exact .inr G
 have aM:yV q h aF args r b dR=T:=by simp only[yV,fz];refine⟨⟨⟨⟨⟨ef,fp.2 λC ap=>?_⟩,a0⟩,a1⟩,aI⟩,aJ⟩;have G:=fp.1 aH C ap;simp only[fz]at G⊢;exact⟨G.1,by rw[(ah C.1 C.2 ap).1];rfl⟩
 have al:∀i,nH (z++pj b) i=T->vT aF (dR++b) i=T:=λi m=>by
  unfold vT;cases cN:cO (dR++b) i with
  |none=>rfl
  |some e=>
   have G:=ak (i,e)<|iM cN;simp only[lc]at G;simp only[nH,xA,Om,gq,decide_eq_false_iff_not,not_or]at m;rcases G with(G|G)|G
   .exact G
   .exact absurd cU m.1
   .exact absurd cU m.2
 have an:∀A,A∈pj b->∃e,(A,e)∈b:=λA j=>by obtain⟨C,ap,rfl⟩:=hT.1 j;exact ef
 have ay:=XJ (u:=u) (K:=K) (n:=n) (ops:=ops) (y:=y) (q:=q) aB b dR (aj.guard aY) m (aj.callee aV) aa aU (by
   rw[<-aw];refine pw λC ap=>?_
   have G:=HH.1 aw C ap;have p:=ag C ap;simp only[fz]at p;have⟨a,d⟩:=lb.1 p.1.1.1;rw[d]at G;rw[G];exact aj.h _ _ G) aM (λai v ab=>by
   by_cases ax:B ai=y.dst
   .simp[ax]
   .rw[lc];refine .inr (R_ (λa d=>Hd al d) (akI λA j=>?_));rcases gq.1 j with G|G
    .exact(am A G).1 ai v ab
    .have⟨e,t⟩:=an A G;refine(ah A e t).2.1 ai v ab λC=>ax ?_
     rw[(x A e t).2.2.1];exact C.symm) (λi a d=>by
   rw[lc];cases cN:cO (dR++b) i with
   |some e=>exact .inl rfl
   |none=>
    refine .inr (aen (λa d=>Hd al d) (arr λA j=>?_));rcases gq.1 j with G|G
    .refine((am A G).2 i a d).resolve_left λaf=>?_
     have⟨C,ap,aZ⟩:=hT.1 (show i∈pj dR by simpa using af);have:=ae C.1 C.2 (by have:=ag C ap;simp only[fz,i6]at this;exact this.1.2)
     rw[aZ,cN]at this;cases this
    .have⟨e,t⟩:=an A G;exact(ah A e t).2.2 i a d) Y
 refine ay.jU ⟨λg=>?_,λg=>?_⟩
 .rw[ql];unfold ec.lt;rw[SI (λl aa=>E8)];simp only[cP.yM,vv];cases a8:y.dst with
  |none=>simp[cP.put]
  |some ai=>simp only[ov,h0]
 .rw[oj];unfold ec.qu;rw[SB (λl aa=>E8)];simp only[cP.yM,ug];rw[SU aF _ q.Y g _ D];unfold ec.oC;have au:=abp (aF:=aF) (S:=fZ<|dR++b) (b:=k) (g:=g) aq;have aG:(vv ao y.dst aF r b dR k z eO Q).te=xt aF (fZ<|dR++b) k dR:=rfl;have aD:(vv ao y.dst aF r b dR k z eO Q).hG=vY aF (fZ<|dR++b) b:=rfl;rw[aG,aD,au];have aO:(∀e,(g,e)∉b)->∀l r,vY aF (fZ<|dR++b) b=B (l,r)->l≠g:=by
   generalize fZ (dR++b)=S;intro N l r aA;clear aK aL a3 ay ah x aC aE aM al an aR aN a2 ak P aH aI aJ D ae az aG aD au am
   match b,N,aA with
   |(i,e)::s,N,aA=>
    simp only[vY]at aA;split at aA
    .cases aA;rintro rfl;exact N e dh
    .cases aA
  cases j:cO dR g with
  |some e=>
   rw[ae g e j];have N:∀e,(g,e)∉b:=λaQ aX=>by rw[(x g aQ aX).2.1]at j;cases j
   have⟨a,d⟩:=lb.1<|aq _ (iM j);simp only at d;cases aW:k.contains g with
   |true=>simp[d]
   |false=>
    simp only[j0,if_false];have G:=HH.1 az (g,e)<|oE.2 ⟨iM j,by simp only[aW];rfl⟩;simp only at G;rw[d]at G;simp only[d,iq];have p:=aj.h _ _ G;rw[p];cases aA:vY aF (fZ (dR++b)) b with
    |none=>rfl
    |some C=>have⟨l,r⟩:=C;simp only;rw[dA (aO N l r aA)]
  |none=>
   simp only[ite_self];cases cN:cO (dR++b) g with
   |none=>
    simp only;cases aA:vY aF (fZ (dR++b)) b with
    |none=>rfl
    |some C=>have⟨l,r⟩:=C;simp only;rw[dA (aO (aC g cN).2 l r aA)]
   |some e=>
    have ar:(g,e)∈b:=by
     rcases aE g e cN with G|G
     .rw[j]at G;cases G
     .exact G
    have ad:=(x g e ar).2.2.2;have⟨a,d⟩:=lb.1<|D (g,e)<|List.mem_append_right _ ar;simp only at d;simp only[d,iq];rw[show vY aF (fZ (dR++b)) b=B (g,a.map (V.fD (fZ (dR++b)))) by
     conv=>lhs;arg 3;rw[ad]
     simp[vY,d]]
    simp
def ST{ag:Type}(b:E Nat):∀(s:E (Nat×ag)) (g:Nat) (v:ag),cO s g=B v->b.contains g=T->cO (ue s b) g=B v
 |[],_,_,h,_=>o0
 |(t,a)::s,g,v,h,af=>by
  simp only[ue,List.filter_cons];rw[io]at h;by_cases d:t=g
  .subst d;rw[dE rfl]at h;rw[dE af,io,dE rfl,h]
  .rw[dA d]at h;split
   .rw[io,dA d];exact ST b s g v h af
   .exact ST b s g v h af
def aqA{ag:Type}(a:E Nat):∀(s:E (Nat×ag)) (g:Nat) (v:ag),cO (ue s a) g=B v->a.contains g=T
 |s,g,v,h=>by have:=iM h;simp only[ue,oE]at this;exact this.2
def SZ(P:fX)(a:E Nat):hs P.need (P.q4 a):=by
 cases P with
 |iZ=>exact⟨λ_ _ h=>yC,λ_ _ h=>yC⟩
 |mk ops s b d eU q=>
  cases s with
  |nil=>exact⟨λ_ _ h=>yC,λ_ _ h=>yC⟩
  |cons y s=>refine⟨λg v h=>h,λg v h=>?_⟩;refine ST _ _ _ _ (zb _ _ _ _ h) ?_;have:=aqA _ _ _ _ h;simp only[Om,i6,gq]at this⊢;exact .inr this
def vb{f:gk}{ak:E cT}{r:cT}{h aF:fK}(t:E (E Nat))(d dR:E (Nat×Nat))(b j:E Nat)(eO:Nat)(a:E Nat)(Y:ih u f ak h r aF)(af:P.callee t=B (f,ak.map (cT.map (V.fD (fZ dR)))))(ar:(P.ft n&&iz u f&&L_ (P.q4 (pj dR)) h aF ak r d dR b j eO a P.dst)=T)
  (q:(dR.map λC=>cO (P.q4<|pj dR).Y C.1,(dR.filter λC=> !b.contains C.1).map λC=>cO (P.q4<|pj dR).Y C.1,a.map λm=>vr (xt aF (fZ<|dR++d) b dR) eO m)=(dR.map λC=>(cO h C.2).map<|eD.map<|V.fD<|fZ dR,(dR.filter λC=> !b.contains C.1).map λC=>(cO aF C.2).map<|eD.map<|V.fD<|fZ<|dR++d,a.map λm=>vr (P.q4<|pj dR).Y eO m))
  (g:TD u K n (P.push<|vv (P.q4<|pj dR) P.dst aF r d dR b j eO a) ah):TD u K n P ah:=by
 simp only[fz]at ar;have⟨⟨aS,aN⟩,a2⟩:=ar;have⟨ao,y,cK,G,N,Q⟩:=rN aS;have⟨aq,S,aa⟩:=Bi af cK;have p:=SZ P<|pj dR;simp only[mh]at q;have⟨aj,al,am⟩:=q;rw[Q]at g a2;refine NC cK (asV t d dR b j eO a (p.guard G) N (p.callee S) aN aa aj al a2 Y) (SY _ _) (λl i C ap=>by cases i;cases ap) (λl i C ap=>?_) g;cases i;obtain⟨m,aw,rfl⟩:=hT.1 ap;simp only[L_,fz,i6]at a2;have⟨⟨⟨⟨⟨⟨an,_⟩,_⟩,_⟩,_⟩,s⟩,ai⟩:=a2;have ab:=fp.1 ai m aw;have⟨c,o⟩:=lb.1 ab;have⟨x,ad,ae⟩:=RP o;have k:=HH.1 am m aw;rw[o]at k;have⟨z,A,D⟩:=RP k;refine⟨x,z,ad,?_,D.trans ae.symm,?_⟩
 .unfold ec.oC;simp only[vv];rw[A]
 .have aR:a.isEmpty=Z:=by cases a with
   |nil=>cases aw
   |cons _ _=>rfl
  rw[aR,r7,fz]at s;have⟨e,ag⟩:=lb.1 s.2;simp only[Om,i6];exact hT.2 ⟨_,iM ag,rfl⟩
def B0(i:Nat):Nat->E V->E (Nat×Nat×V)
 |_,[]=>[]
 |m,c::s=>(i,m,c)::B0 i (m+1) s
theorem adN{i:Nat}:∀{b:E V} {aq j:Nat} {c:V},b[j]?=B c->(i,aq+j,c)∈B0 i aq b
 |[],_,_,_,h=>by simp at h
 |a::b,aq,0,c,h=>by cases h;simp[B0]
 |a::b,aq,j+1,c,h=>by have:=adN (i:=i) (aq:=aq+1) (j:=j) (b:=b) h;rw[B0,l3];exact .inr ef
theorem adO{i:Nat}:∀{b:E V} {aq:Nat} {C:Nat×Nat×V},C∈B0 i aq b->∃j,C.1=i/\C.2.1=aq+j/\b[j]?=B C.2.2
 |a::b,aq,C,h=>by
  rcases l3.1 h with rfl|h
  .exact cU
  .have⟨j,G,g,d⟩:=adO h;exact⟨j+1,G,I,d⟩
def Gq(u:dw)(q:cP)(y:dy):X (cT×E (Nat×Nat×V)):=match y.op with
 |.load d a=>match dZ q a,u.info? d with
  |some (.c (.box i aq)),B j=>match q.lj i with
   |some b=>if decide (1<=j.size/\aq+j.size<=F b)then(nw u d<|b.drop aq).map λv=>(v,B0 i aq<|(b.drop aq).take j.size)else M
   |none=>M
  |_,_=>M
 |.nilCheck a=>match dZ q a with
  |some (.c (.box i aq))=>match vr q.Y i aq with
   |some c=>B (.c<|.box i aq,[(i,aq,c)])
   |none=>M
  |_=>M
 |_=>M
theorem atg{u:dw}{d:f1}{j:n9}(hi:u.info? d=B j){a b:E V}(G:1<=j.size)(g:j.size<=F a)(i:j.size<=F b)(h:a.take j.size=b.take j.size):nw u d a=nw u d b:=by
 unfold nw;rw[hi];cases u.underlying d with
 |none=>rfl
 |some p=>
  simp only;by_cases k:gc u d=T
  .simp only[k,if_true,g,i,h]
  .simp only[k,if_false,j0];cases a with
   |nil=>simp at g;omega
   |cons t a=>cases b with
    |nil=>simp at i;omega
    |cons l b=>obtain⟨A,m⟩:∃A,j.size=A+1:=⟨j.size-1,I⟩;rw[m]at h;simp only[List.take_succ_cons,tm]at h;simp only[h.1]
theorem asY{ao:cP}{v:cT}{x:E (Nat×Nat×V)}(h:Gq u ao y=B (v,x))(ar:hF ops y ao=B T)(S:jB n y=T):mo u n ops y ⟨⟨ao.tmps,[]⟩,y.dst,v,M,Z,B ⟨[],[],[],[],x⟩,[]⟩:=by
 intro K q aj cR;have⟨_,_,ag⟩:=cR;have ae:∀C∈x,∃b,cO q.Y C.1=B (.box b)/\b[C.2.1]?=B C.2.2:=ag _ rfl;have au:∀g v,cO ao.tmps g=B v->cO q.tmps g=B v:=aj.t;have p:hs ⟨ao.tmps,[]⟩ q:=aj;have ad:hF ops y q=B T:=p.guard (by have:hF ops y ⟨ao.tmps,[]⟩=hF ops y ao:=rfl;rw[this];exact ar)
 unfold Gq at h;split at h
 .rename_i z a cK;split at h
  .rename_i i aq j d hi;split at h
   .rename_i b an;split at h
    .rename_i aP;have aP:=f8 aP;have⟨A,ah,ab⟩:=gG.1 h;simp only[mh]at ab;obtain⟨rfl,rfl⟩:=ab;have t:dZ q a=B (.c<|.box i aq):=p.dZ (q:=⟨ao.tmps,[]⟩) (by
      have:dZ ⟨ao.tmps,[]⟩ a=dZ ao a:=by cases a<;>rfl
      rw[this];exact d)
     have D:∀m,m<j.size->∃c k,b[aq+m]?=B c/\cO q.Y i=B (.box k)/\k[aq+m]?=B c:=by
      intro m aw;have G:b[aq+m]?=B (b[aq+m]'I):=e6 _;have o:((b.drop aq).take j.size)[m]?=B (b[aq+m]'I):=by rwa[jd,dE aw,j2]
      have⟨k,P,al⟩:=ae _ (adN (i:=i) (aq:=aq) o);exact cU
     have⟨_,k,_,Q,_⟩:=D 0 I;have N:∀m,m<j.size->k[aq+m]?=b[aq+m]?:=by intro m aw;have⟨c,ak,G,o,P⟩:=D m aw;rw[Q]at o;cases o;rw[P,G]
     have ap:aq+j.size<=F k:=by have G:=N (j.size-1) I;rw[e6 (by omega:aq+(j.size-1)<F b)]at G;have:=(ie.1 G).1;omega
     have ai:nw u z (k.drop aq)=B A:=by
      rw[<-ah];refine atg hi aP.1 ef ef ?_;refine tp λm=>?_
      rw[jd,jd];split
      next aw=>rw[j2,j2];exact N m aw
      .rfl
     have s:s9 u q y.op=B A:=by rw[cK];simp only[s9,t,Go.Proofs.YtddmdeaegbfhaaaGreat.qp,cP.lj,Q];exact ai
     refine(AT A ad S (Ca s).jC).jU ⟨λg=>?_,λg=>?_⟩
     .rw[ql];unfold ec.lt;rw[SI (λl aa=>E8)];cases af:y.dst with
      |none=>simp[cP.put]
      |some z=>simp only[ov,h0]
     .rw[oj];unfold ec.qu ec.oC;rw[SB (λl aa=>E8)];simp[ug,cO]
    .cases h
   .cases h
  .cases h
 .rename_i a cK;split at h
  .rename_i i aq d;split at h
   .rename_i c am;simp only[h0,mh]at h;obtain⟨rfl,rfl⟩:=h;have t:dZ q a=B (.c<|.box i aq):=p.dZ (q:=⟨ao.tmps,[]⟩) (by
     have:dZ ⟨ao.tmps,[]⟩ a=dZ ao a:=by cases a<;>rfl
     rw[this];exact d)
    have⟨k,G,o⟩:=ae _ (gO.2 rfl);have s:s9 u q y.op=B (.c<|.box i aq):=by rw[cK];simp only[s9,t,Go.Proofs.YtddmdeaegbfhaaaGreat.qp,cP.lj,G];rfl
    refine(AT _ ad S (Ca s).jC).jU ⟨λg=>?_,λg=>?_⟩
    .rw[ql];unfold ec.lt;rw[SI (λl aa=>E8)];cases af:y.dst with
     |none=>simp[cP.put]
     |some z=>simp only[ov,h0]
    .rw[oj];unfold ec.qu ec.oC;rw[SB (λl aa=>E8)];simp[ug,cO]
   .cases h
  .cases h
 .cases h
def ah9{v:cT}{z:E (Nat×Nat×V)}(h:P.fQ (Gq u)=B (v,z))(ar:P.ft n=T)(g:TD u K n (P.push ⟨⟨P.need.tmps,[]⟩,P.dst,v,M,Z,B ⟨[],[],[],[],z⟩,[]⟩) ah):TD u K n P ah:=by
 have⟨aa,y,cK,G,A,D⟩:=rN ar;rw[D]at g;have cN:=jW h cK;have t:hs P.need P.NS:=by
  cases P with
  |iZ=>exact⟨λ_ _ h=>yC,λ_ _ h=>yC⟩
  |mk ops s S ab eU q=>cases s with
   |nil=>exact⟨λ_ _ h=>yC,λ_ _ h=>yC⟩
   |cons y s=>exact abH _ _ _
 refine NC cK (asY cN G A) ⟨t.t,λg v h=>o0⟩ (λl p C ap=>?_) (λl p C ap=>by cases p;cases ap) g;cases p;unfold Gq at cN;split at cN
 .split at cN
  .split at cN
   .rename_i i aq j d hi _ b Q;split at cN
    .have⟨ad,_,x⟩:=gG.1 cN;simp only[mh]at x;obtain⟨_,rfl⟩:=x;have⟨m,k,o,a⟩:=adO ap;rw[k,o];refine⟨b,t.h _ _ (za Q),?_⟩;rw[jd]at a;split at a
     .rw[j2]at a;exact a
     .cases a
    .cases cN
   .cases cN
  .cases cN
 .split at cN
  .split at cN
   next c N=>simp only[h0,mh]at cN;obtain⟨_,rfl⟩:=cN;rw[gO.1 ap];have⟨b,k,o⟩:=RP N;exact⟨b,t.h _ _ k,o⟩
   .cases cN
  .cases cN
 .cases cN
def fX.abi(u:dw)(P:fX):fX:=match P.fQ (Gq u)with
 |some (v,a)=>P.push ⟨⟨P.need.tmps,[]⟩,P.dst,v,M,Z,B ⟨[],[],[],[],a⟩,[]⟩
 |none=>.iZ
def nk(ar:P.ft n=T)(g:TD u K n (P.abi u) ah):TD u K n P ah:=by
 unfold fX.abi at g;split at g
 next v a h=>exact ah9 h ar g
 .exact g.elim
def Nw(u:dw)(A:Nat)(ops:Array dy):E dy->cP->X cP
 |[],q=>B q
 |y::s,q=>match hF ops y q,s9 u q y.op with
  |some T,B v=>if jB A y then Nw u A ops s (q.put y.dst v)else M
  |_,_=>M
def ud(u:dw)(A:Nat):k7->cP->X (Bool×cP)
 |.skip,q=>B (T,q)
 |.ret,q=>B (Z,q)
 |.seq t l,q=>match ud u A t q with
  |some (T,ao)=>ud u A l ao
  |r=>r
 |.region _ ops Z,q=>(Nw u A ops ops.toList q).map λao=>(T,ao)
 |_,_=>M
def Sb(l:Bool):fE:=if l then .normal else .ret
def hs.put{q b:cP}(h:hs q b)(i:X Tmp)(v:cT):hs (q.put i v) (b.put i v):=by
 cases i with
 |none=>exact h
 |some i=>
  refine⟨λg p aA=>?_,λg p aA=>h.h g p aA⟩;rw[ov]at aA⊢;split at aA
  next a=>rw[dE a];exact aA
  next a=>rw[dA a];exact h.t g p aA
structure rx(d ao a:cP):Prop where
 sub:hs ao a
 Y:a.Y=d.Y
 Bv:∀b,2000000<=b->cO a.tmps b=cO d.tmps b
def adD(k:A<=2000000):∀(s:E dy) {q ao a:cP},Nw u A ops s q=B ao->hs q a->(∀b,rx a ao b->ah .normal b)->wL u K A ops s a ah
 |[],q,ao,a,h,aj,d=>by cases h;exact QY (d a ⟨aj,rfl,λ_ _=>rfl⟩)
 |y::s,q,ao,a,h,aj,d=>by
  unfold Nw at h;split at h
  .rename_i v ar ab;split at h
   .rename_i j;refine QZ (AT v (aj.guard ar) j<|aj.jC (Ca ab).jC) (adD k s h (aj.put y.dst v) λb g=>d b ⟨g.sub,by rw[g.Y,ug],λm ax=>?_⟩);rw[g.Bv m ax];cases l:y.dst with
    |none=>rfl
    |some i=>rw[ov,dA];exact Nat.ne_of_lt<|Ct (Ct (nG j i l) k) ax
   .cases h
  .cases h
def Nv(j:A<=2000000):∀(c:k7) {q ao b:cP} {l:Bool} {ah:fE->cP->Prop},ud u A c q=B (l,ao)->hs q b->(∀m,rx b ao m->ah (Sb l) m)->ht u K A c b ah
 |.skip,q,ao,b,l,ah,h,aj,d=>by simp only[ud,h0,mh]at h;obtain⟨rfl,rfl⟩:=h;exact Yk (d b ⟨aj,rfl,λ_ _=>rfl⟩)
 |.ret,q,ao,b,l,ah,h,aj,d=>by simp only[ud,h0,mh]at h;obtain⟨rfl,rfl⟩:=h;exact Yj (d b ⟨aj,rfl,λ_ _=>rfl⟩)
 |.seq a o,q,ao,b,l,ah,h,aj,d=>by
  unfold ud at h;split at h
  next y G=>refine Ra (Nv j a G aj λp g=>?_);exact Nv j o h g.sub λx k=>d x ⟨k.sub,k.Y.trans g.Y,λt ax=>(k.Bv t ax).trans<|g.Bv t ax⟩
  .rename_i r ay;refine Ra (Nv j a h aj λp g=>?_);cases l with
   |true=>exact absurd h<|ay ao
   |false=>exact d p g
 |.region id ops i,q,ao,b,l,ah,h,aj,d=>by
  cases i with
  |true=>simp[ud]at h
  |false=>simp only[ud]at h;have⟨y,G,s⟩:=gG.1 h;simp only[mh]at s;obtain⟨rfl,rfl⟩:=s;have:=Yi (u:=u) (K:=K) (n:=A) (id:=id) (s:=ops.toList) (q:=b) (ah:=ah)<|adD j ops.toList G aj d;simpa using this
 |.cond _ _ _,_,_,_,_,_,h,_,_=>wJ
 |.block _ _,_,_,_,_,_,h,_,_=>wJ
 |.loop _,_,_,_,_,_,h,_,_=>wJ
 |.rangeFunc _ _ _ _,_,_,_,_,_,h,_,_=>wJ
 |.exit _,_,_,_,_,_,h,_,_=>wJ
 |.scope _,_,_,_,_,_,h,_,_=>wJ
 |.label _,_,_,_,_,_,h,_,_=>wJ
 |.goto _,_,_,_,_,_,h,_,_=>wJ
 |.refuse _,_,_,_,_,_,h,_,_=>wJ
def abk{ag:Type}:∀(s d:E (Nat×ag)) (b:Nat) (v:ag),cO s b=B v->cO (s++d) b=B v
 |[],_,_,_,h=>QN
 |(g,a)::s,d,b,v,h=>by
  rw[r8,io];rw[io]at h;split at h
  next af=>rw[dE af];exact h
  next af=>rw[dA af];exact abk s d b v h
def abo{ag:Type}:∀(s d:E (Nat×ag)) (b:Nat),cO s b=M->cO (s++d) b=cO d b
 |[],_,_,_=>rfl
 |(g,a)::s,d,b,h=>by
  rw[r8,io];rw[io]at h;split at h
  .cases h
  next af=>rw[dA af];exact abo s d b h
theorem abm:∀(s:E (Nat×cT)) (b:Nat),cO (pU s) (b+2000000)=cO s b
 |[],_=>rfl
 |(g,a)::s,b=>by
  simp only[pU,hx,io];by_cases h:g=b
  .rw[dE h,dE I]
  .rw[dA h,dA I];exact abm s b
theorem ami(b:E cT)(s:E (Nat×cT))(h:F b<=2000000)(a:Nat):cO (lV 0 b++pU s) (a+2000000)=cO s a:=by
 rw[abo]
 .exact abm s a
 .cases cN:cO (lV 0 b) (a+2000000)with
  |none=>rfl
  |some v=>have⟨_,d⟩:=BD b 0 _ v cN;have:=(ie.1 d).1;omega
theorem ahP{f:gk}{m:E cT}{j:n5}{c:k7}{b:Nat}{l:Bool}{D ad:cP}{ae:E (Bool×E V)}{v:cT}(az:u.funcs[f]?=B j)(ar:j.body=B c)(aB:hF ops y q=B T)(ax:jB n y=T)(aw:lh q y=B (f,m))(av:iz u f=T)(cN:F m<=j.ntmps/\j.ntmps<=2000000)
  (aI:∀g r,cO ad.Y g=B r->cO q.Y g=B r)(aF:j.results.toList=[.tmp b])(Y:ud u j.ntmps c ⟨lV 0 m,ad.Y⟩=B (l,D))(d:ll u D [] [.tmp b]=B ae)(ab:ma ae=B v):km u K n ops y q (q.put y.dst v):=by
 have⟨aO,aa⟩:=cN;refine nj aB λx t w r N ah an=>?_
 have⟨P,aC,au,aL⟩:=vp aw av<|r.kM.o y;unfold ln;rw[aL];simp only[ly];have hS:gW (K.oB<|p3 K t) x j.ntmps {tmps:=P++Cg (j.ntmps-P.size) undef,defers:=[]} w ⟨lV 0 m++pU q.tmps,q.Y⟩:=by
  refine⟨rfl,fv,aa,⟨r.eV.gJ,r.eV.gg,r.eV.may,r.eV.lR,r.eV.rL,r.eV.iA⟩,λb v ab=>?_⟩;rcases MU _ _ _ _ ab with ab|ab
  .have⟨_,al⟩:=BD m 0 b v ab;have⟨p,S,am⟩:=au (b-0) v al;simp only[ti]at S;refine⟨p,?_,am⟩;have bg:=(l4.1 S).1;rw[p3,dE I];rwa[r_ bg]
  .have⟨s,C⟩:=SR _ _ _ ab;have⟨p,aP,aK⟩:=r.tmps _ _ C;refine⟨p,?_,aK⟩;rwa[NP _ _ _ _ s]
 have aq:ht u (K.oB<|p3 K t) j.ntmps c ⟨lV 0 m++pU q.tmps,q.Y⟩ (λe o=>e=Sb l/\rx ⟨lV 0 m++pU q.tmps,q.Y⟩ D o):=by refine Nv aa c Y ⟨λg p aA=>?_,λg p aA=>aI g p aA⟩ cU;simp only at aA⊢;exact abk _ _ _ _ aA
 refine calls_of_wp az ar (wp_mono (aq _ w ⟨x,hS⟩) λe Q aE ap=>?_);have⟨o,⟨ai,k⟩,ay,z⟩:=ap;have aG:ll u o [] j.results.toList=B ae:=by
  rw[aF];simp only[ll,Ha]at d⊢;split at d
  .rename_i a aQ A aJ;split at A
   next p aA=>rw[z.sub.Uo aA];simp only;rw[A];cases aJ;exact d
   .cases A
  .cases d
 have ak:Q.defers=[]/\∃v,(results j Q.tmps).run u aE=.ok v aE/\N (t.put y.dst v) aE:=by
  have⟨p,aH,ag⟩:=NJ k.kM aG ab;have aj:N (t.put y.dst p) aE:=by
   have ao:=gW.put (K:=K) (q:=⟨n4 o.tmps,o.Y⟩) (t:=t) (w:=aE) (x:=ai) (n:=n) ⟨r.defers,r.size,r.oo,⟨k.eV.gJ,k.eV.gg,k.eV.may,k.eV.lR,k.eV.rL,k.eV.iA⟩,λb v ab=>?_⟩ y.dst (nG ax) ag
   .refine an _ _ (R.jU ⟨ai,ao⟩ ⟨λg=>?_,λg=>?_⟩)
    .have aD:∀b,cO (n4 o.tmps) b=cO (lV 0 m++pU q.tmps) (b+2000000):=λb=>by rw[Gs];exact z.Bv _ I
     have af:∀b,cO (n4 o.tmps) b=cO q.tmps b:=λb=>by rw[aD];exact ami _ _ I _
     cases aN:y.dst with
     |none=>exact af g
     |some i=>rw[ov,ov];split<;>first|rfl|exact af g
    .rw[ug,ug,z.Y]
   .simp only at ab;rw[Gs]at ab;have⟨aM,s,C⟩:=k.tmps _ _ ab;rw[NP _ _ _ _ (Nat.le_add_left _ _),Nat.add_sub_cancel]at s;exact⟨aM,s,C⟩
  exact⟨k.defers,p,aH,aj⟩
 subst ay;cases l<;>simp only[Sb,bodyPost]<;>exact ak
def fX.adZ(u:dw)(P:fX)(d:E Nat):X cT:=match P.callee []with
 |some (f,b)=>match u.funcs[f]? with
  |some a=>match a.body,a.results.toList with
   |some c,[.tmp i]=>if decide (F b<=a.ntmps/\a.ntmps<=2000000)&&iz u f then(match ud u a.ntmps c ⟨lV 0 b,(P.q4 d).Y⟩with
    |some (_,g)=>(ll u g [] [.tmp i]).bind ma
    |none=>M)else M
   |_,_=>M
  |none=>M
 |none=>M
def XZ(a:E Nat)(v:cT)(ab:P.adZ u a=B v)(ar:P.ft n=T)(g:TD u K n (P.push ⟨P.q4 a,P.dst,v,M,Z,M,[]⟩) ah):TD u K n P ah:=by
 have⟨Q,y,cK,G,j,k⟩:=rN ar;rw[k]at g;unfold fX.adZ at ab;split at ab
 .rename_i f D x;have⟨i,m,o⟩:=Bi x cK;have C:i=D:=by cases i<;>simpa[m3]using o
  subst C;split at ab
  .rename_i N z;split at ab
   .rename_i c aa t A;split at ab
    .rename_i b;simp only[fz,i6]at b;split at ab
     next l S Y=>have⟨ae,p,s⟩:=jc.1 ab;have d:=SZ P a;refine NC cK (λK q aj _=>?_) (SY _ _) (TH rfl _) (TI rfl) g;exact ahP z t (aj.guard<|d.guard G) j (aj.callee<|d.callee m) b.2 b.1 (ad:=P.q4 a) aj.h A Y p s
     .cases ab
    .cases ab
   .cases ab
  .cases ab
 .cases ab
def AJ(u:dw)(f:gk)(e:f1)(sz a:Nat):Prop:=
 ∀(w:d2) (o:dp) (l y ah ao D Q j:Nat) (P aF:E dp),
  ((o=.slice M 0 0/\Q=0)\/(∃t,o=.slice (B t) 0 0/\Q=0)\/o=.slice (B ⟨l,y,M⟩) Q Q)->F P=Q*sz->(∀m p,P[m]?=B p->w.cell? ⟨l,y+m,M⟩=B p)->F aF=sz->(∀m p,aF[m]?=B p->w.cell? ⟨ah,ao+m,M⟩=B p)->j<=Q->(∀p∈aF,p.oneCell'=T)->(∀p∈P,p.oneCell'=T)->
  Q+1<=maxLen->(Q+1)*a<=140737488355328->
  Hy u f #[o,.int W j,.slice (B ⟨ah,ao,M⟩) 1 D] w λgQ aE=>∃aY,gQ=.returned aY/\aE.ownsRow 0 e sz aY (Q+1) (P.take (j*sz)++aF++P.drop (j*sz))/\fL w (λ_ _=>False) aE/\∀g,aY.ownBlock=B g->w.heap.size<=g
theorem alG{ag:Type}{u:dw}{f e sz aK:Nat}{j:Int}(b:ag->E V)(aq:∀a,(b a).all V.one=T)(aj:decide (0<sz)=T)(a8:AJ u f e sz aK){s aa:E ag}{a:ag}(S:q1 aK s j a=B aa):
  ih u f [.c (.d_ sz 1 (F s)<|s.map b),.c<|.cY<|.int W j,.c<|.d_ sz 0 1 [b a]] [] (.c<|.d_ sz 900002 (F aa)<|aa.map b) [(900000,.fw e sz<|F aa)]:=by
 simp only[q1]at S;split at S;rotate_left;cases S;rename_i bh;cases S;have⟨bE,a1,aJ,ak⟩:=bh;obtain⟨A,rfl⟩:∃A:Nat,j=A:=⟨j.toNat,I⟩;simp only[gz];have aV:=f8 aj;intro rd x w a2 aT a_ am _ _ _;have⟨N,lD,bv⟩:=am 0 _ rfl;have⟨aX,aC,bw⟩:=am 1 _ rfl;have⟨aZ,au,bx⟩:=am 2 _ rfl;have bt:a2= #[N,aX,aZ]:=by
  apply v6;intro m
  match m with
  |0=>rw[lD];rfl
  |1=>rw[aC];rfl
  |2=>rw[au];rfl
  |m+3=>have:a2.size=3:=a_;rw[uy I,uy dh]
 have a6:aX=.int W A:=hw bw;subst a6;rw[bt];have⟨aH,ar⟩:=akJ (sz:=sz) (ae:=s.map b) bv (by simp[Sa]);have aI:=art (sz:=sz) (ae:=[b a]) bx (by simp[TZ]);simp only[fT,lG]at aH ar aI;have ba:∃(l y:Nat) (P:E dp),((N=.slice M 0 0/\F s=0)\/(∃t,N=.slice (B t) 0 0/\F s=0)\/N=.slice (B ⟨l,y,M⟩) (F s) (F s))/\F P=F s*sz/\(∀m p,P[m]?=B p->w.cell? ⟨l,y+m,M⟩=B p)/\hK rd sz P (s.map b):=by
  cases s with
  |nil=>
   refine⟨0,0,[],?_,dh,dh,by simp[hK]⟩;rcases ar with h|⟨t,h⟩
   .exact .inl ⟨h,rfl⟩
   .exact .inr<|.inl ⟨t,h,rfl⟩
  |cons o s=>
   have bB:=aH;cases aH with
   |d_ l y n c q ae p cR bj bn bq ay aA=>
    have⟨P,aW,aM,aB,z,aD⟩:=T1 aT bB;refine⟨l,y,P,.inr<|.inr ?_,aW,λm p h=>ahC,z,aD⟩;rcases ar with h|⟨t,h⟩
    .cases h
    .cases h;rfl
 have⟨l,y,P,a0,ax,bs,az⟩:=ba;have iU:∃(ah ao D:Nat) (aF:E dp),aZ=.slice (B ⟨ah,ao,M⟩) 1 D/\F aF=sz/\(∀m p,aF[m]?=B p->w.cell? ⟨ah,ao+m,M⟩=B p)/\hK rd sz aF [b a]:=by
  have bC:=aI;cases aI with
  |d_ ah ao n D q ae p cR bj bn bq ay aA=>have⟨P,aW,aM,aB,z,aD⟩:=T1 aT bC;exact⟨ah,ao,D,P,rfl,I,λm p h=>ahC,z,aD⟩
 obtain⟨ah,ao,D,aF,rfl,a5,bo,aU⟩:=iU;have aO:F (s.map b)=F s:=fT _;have bk:=a8 w N l y ah ao D (F s) A P aF a0 ax bs a5 bo I
  (hK.one aV (by rw[a5,lG,rh]) aU (λo ad=>by rw[gO.1 ad];exact aq a))
  (hK.one aV (by rw[ax,aO]) az (λo ad=>ahy)) ak aJ
 refine bk.mono λgQ aE ap=>?_
 obtain⟨aY,rfl,aM,aB,z⟩:=ap;have⟨bb,a4,bd,bc,a9,bu,a7⟩:=xq aM.m;have aP:F (s.take A++[a]++s.drop A)=F s+1:=ahz;have al:A<=F s:=I;have bp:hK rd sz (P.take (A*sz)++aF++P.drop (A*sz)) ((s.take A++[a]++s.drop A).map b):=by
  have aG:hK rd sz (P.take<|A*sz) ((s.take A).map b):=by have:=az.je 0 A;simpa[nx]using this
  have aQ:hK rd sz (P.drop<|A*sz) ((s.drop A).map b):=by
   have:=az.je A<|F s-A;have C:(P.drop<|A*sz).take ((F s-A)*sz)=P.drop (A*sz):=k9 Ln;have bz:((s.map b).drop A).take (F s-A)=(s.drop A).map b:=by rw[up];exact k9 (by rw[my,aO];exact jq _)
   rwa[C,bz]at this
  rw[hN,hN];have aS:A*sz<=F P:=ahA;refine(aG.append aU ?_).append aQ ?_
  .simp only[fT,hO];rw[jw aS,jw I]
  .simp only[g9,fT,hO,lG,a5];rw[jw aS,jw I,jZ,rh]
 have aw:(x.iP 900000 (undef,aY) (0,0)).dM 900000=(undef,aY):=rA;have K:∀i r,cO [(900000,eD.fw e sz<|F<|s.take A++[a]++s.drop A)] i=B r->i=900000/\r=.fw e sz (F s+1):=by
  intro i r h;simp only[io]at h;split at h
  next af=>cases h;exact⟨af.symm,sD⟩
  .cases h
 have av:∀d k,h7 (x.iP 900000 (undef,aY) (0,0)) [(900000,eD.fw e sz<|F<|s.take A++[a]++s.drop A)] d k->aY.ownBlock=B d/\(F s+1)*sz<=k:=by rintro d k ⟨i,r,G,Q⟩;obtain⟨rfl,rfl⟩:=K i r G;simp only[er,aw]at Q;exact Q
 refine⟨aY,x.iP 900000 (undef,aY) (0,0),rfl,aB.kN λ_ _ h=>h.elim,λi bD bF h=>by have:=(K i _ h).1;omega,λd k h=>.inr<|z _ (av d k h).1,λi a3 r bA d k aR G Q=>(aR<|(K i r G).1.trans (K a3 bA Q).1.symm).elim,λi r h _ d k bl=>.inl<|z _ (av d k ⟨i,r,h,bl⟩).1,λbG bm br=>⟨?_,λi r h=>?_⟩⟩
 .refine⟨?_,?_⟩
  .rw[aP];rcases a7 with dI|⟨ai,bg,aL⟩
   .omega
   .have bf:aY=.slice (B ⟨ai,0,M⟩) (F s+1) a4:=by rw[bd,bg]
    conv=>arg 2;rw[bf]
    refine B6 (l:=ai) (aF:=P.take (A*sz)++aF++P.drop (A*sz)) (bp.mono bm) ahv bc a9 λg v ab af=>?_
    have aN:=aM.m.cells aL g v ab;rw[iS,gx]at aN;exact br _ _ _ (.inl<|z ai aL) (λh=>by have:=(av _ _ h).2;omega) aN
  .show _<=mc ((x.iP 900000 (undef,aY) (0,0)).dM 900000).2/\(_=mc ((x.iP 900000 (undef,aY) (0,0)).dM 900000).2->aY=((x.iP 900000 (undef,aY) (0,0)).dM 900000).2);rw[aw,bu,aP];exact⟨jq _,λ_=>rfl⟩
 .obtain⟨rfl,rfl⟩:=K i r h;exact⟨_,by rw[aw];exact aM.m⟩
theorem Gh{z:Prop}(a:z:=by
 have bj:h6.follows .mixedOrders=T:=J
 intro w o l y ah ao D Q j P aF a0 a_ aG bk aH aO G bn aI am
 have ax:h6.underlying k=B (.slice i):=J
 have az:∀m p,P[m]?=B p->w.cell? ((⟨l,y,M⟩:mX).add m)=B p:=λm p h=>by rw[iS];exact aG m p h
 have aj:∀m p,aF[m]?=B p->w.cell? ((⟨ah,ao,M⟩:mX).add m)=B p:=λm p h=>by rw[iS];exact aH m p h
 have bd:Q+1<=9223372036854775807:=by unfold maxLen at aI;omega
 have newRow:∀(ag:Nat),(w.drew.alloc<|.cells (P.toArray++aF.toArray++nJ an.cells (grownCap w (Q+1) ag i-(Q+1))) i).ownsRow 0 i b (.slice (B ⟨w.heap.size,0,M⟩) (Q+1)<|grownCap w (Q+1) ag i) (Q+1) (P++aF)/\fL w (λ_ _=>False) (w.drew.alloc<|.cells (P.toArray++aF.toArray++nJ an.cells (grownCap w (Q+1) ag i-(Q+1))) i):=by
  intro ag
  have S:=grownCap_ge w (Q+1) ag i
  have aB:=grownCap_le_maxLen w (Q+1) ag i aI
  have aP:F (P++aF)=(Q+1)*b:=by rw[g9,a_,bk,jZ,rh]
  refine⟨⟨aP,.inr ⟨w.heap.size,_,_,rfl,ny _,heap_alloc_new w.drew _,S,aB,?_,?_⟩⟩,fL.rS<|(Ext.drew w).trans<|Ext.alloc _ _⟩
  .simp only[zE,qA,size_zeroCells,show an.cells.size=b from K,a_,bk,<-jZ]
   omega
  .simp only[ul,iu]
   rw[<-iu,<-aP]
   exact rg
 by_cases bv:j=Q
 .subst bv
  have a3:∃aY aE,(qz #[k,k] k #[o,.slice (B ⟨ah,ao,M⟩) 1 D]).run h6 w=.ok aY aE/\aE.ownsRow 0 i b aY (j+1) (P++aF)/\fL w (λ_ _=>False) aE/\∀g,aY.ownBlock=B g->w.heap.size<=g:=by
   rcases a0 with⟨rfl,rfl⟩|⟨t,rfl,rfl⟩|rfl
   .have d:P=[]:=mw (by simpa using a_)
    have ay:=run_append_nil (P:=h6) w k k i u an ax ai N ⟨ah,ao,M⟩ 1 D aF WZ aj h8 I (by rw[A];omega)
    have ar:=newRow 0
    subst d
    simp only[gx,k8,Array.empty_append]at ar⊢
    exact⟨_,_,ay,ar.1,ar.2,λg af=>AR⟩
   .have d:P=[]:=mw (by simpa using a_)
    subst d
    have ay:=run_append_grow (P:=h6) w k k i u an ax ai N t 0 0 [] dh dh ⟨ah,ao,M⟩ 1 D aF WZ aj I I (by rw[A];exact growslice_fits I am)
    exact⟨_,_,ay,(newRow 0).1,(newRow 0).2,λg af=>AR⟩
   .have ay:=run_append_grow (P:=h6) w k k i u an ax ai N ⟨l,y,M⟩ j j P (by rw[aU];exact a_) az ⟨ah,ao,M⟩ 1 D aF WZ aj I I (by rw[A];exact growslice_fits I am)
    exact⟨_,_,ay,(newRow j).1,(newRow j).2,λg af=>AR⟩
  obtain⟨aY,aE,ay,aS,aN,a2⟩:=a3
  have aa:aE.ownsRow 0 i b aY (j+1) (P.take (j*b)++aF++P.drop (j*b)):=by
   rw[k9 agr,Co agr,nb]
   exact aS
  clear aS newRow az aj aG aH
  rcases a0 with⟨rfl,rfl⟩|⟨t,rfl,rfl⟩|rfl<;>(
   try dsimp only[i,k,b,al]at*
   go_enter zfI,znI
   go_wp2_with (at_builtin;refine On _ rfl _ _ _ _ rfl _ _ rfl rfl _ _ ay ?_)
   go_ret
   exact⟨_,rfl,aa,aN,a2⟩)
 .have aX:j<Q:=by omega
  have a0:o=.slice (B ⟨l,y,M⟩) Q Q:=by
   rcases a0 with⟨_,h⟩|⟨_,_,h⟩|h
   .omega
   .omega
   .exact h
  subst a0
  have aR:l<w.heap.size:=by
   obtain⟨p,aA⟩:∃p,P[0]?=B p:=⟨P[0]'(by rw[a_];omega),e6 _⟩
   exact rk w _ (aG 0 p aA)
  have bc:ah<w.heap.size:=by
   obtain⟨p,aA⟩:∃p,aF[0]?=B p:=⟨aF[0]'I,e6 _⟩
   exact rk w _ (aH 0 p aA)
  have ad:F (P.drop<|j*b)=(Q-j)*b:=ags
  have S:=grownCap_ge w (Q+1) Q i
  have aB:=grownCap_le_maxLen w (Q+1) Q i aI
  have aK:(Hz u.size j<|.slice (B ⟨l,y,M⟩) j Q).run h6 w.drew=.ok (P.take<|j*b).toArray w.drew:=by
   rw[aU]
   refine run_firstCells_some w.drew b j ⟨l,y,M⟩ j Q (P.take<|j*b) agt λm v aw=>?_
   rw[jd]at aw
   split at aw
   .exact az m v aw
   .cases aw
  have au:(Q:Int)+1-(j:Int)=((Q+1-j:Nat):Int):=I
  have ap:j+(Q+1-j)=Q+1:=I
  have aJ:∀q,(qz #[k,3] q #[.slice (B ⟨l,y,M⟩) j Q,.int W<|(Q:Int)+1-(j:Int)]).run h6 w=
    .ok (.slice (B ⟨w.heap.size,0,M⟩) (Q+1)<|grownCap w (Q+1) Q i) (w.drew.alloc<|.cells ((P.take<|j*b).toArray++nJ an.cells (Q+1-j)++nJ an.cells (grownCap w (Q+1) Q i-(Q+1))) i):=λq=>by
   have h:=Lib.run_append_grow_zeros w k 3 q i u an W W ax J ai N (B ⟨l,y,M⟩) j Q (P.take<|j*b) aK (Q+1-j) I I I I (by rw[A];omega) (by rw[A,ap];exact growslice_fits I am)
   rw[ap]at h
   rw[au]
   exact h
  obtain⟨ae,jt⟩:∃ae,ae=grownCap w (Q+1) Q i:=⟨_,rfl⟩
  rw[<-jt]at aJ S aB
  obtain⟨x,aC⟩:∃x:Array dp,x=(P.take (j*b)).toArray++nJ an.cells (Q+1-j)++nJ an.cells (ae-(Q+1)):=⟨_,rfl⟩
  rw[<-aC]at aJ
  have aq:F (P.take<|j*b)=j*b:=agt
  have aT:x.size=ae*b:=by
   rw[aC]
   simp only[zE,qA,size_zeroCells,show an.cells.size=b from K,aq,<-jZ]
   congr 1
   omega
  have aV:x.toList.take (j*b)=P.take (j*b):=by
   rw[aC]
   simp only[ul,iu]
   exact List.take_left' aq
  obtain⟨aa,a8⟩:=alL (w:=w.drew) (e:=i) (sz:=b) (Q:=Q) (j:=j) (aV:=ae) (P:=P) (aF:=aF) (row:=x) a_ aO bk aT S aB aV
  have bb:w.drew.heap.size=w.heap.size:=rfl
  rw[bb]at aa a8
  obtain⟨C,q0⟩:∃C,C=w.drew.alloc (.cells x i):=⟨_,rfl⟩
  rw[<-q0]at aJ aa a8
  have aW:∀m,m<ae*b->(C.cell? ⟨w.heap.size,m,M⟩).isSome=T:=λm aw=>by rw[q0,UJ (w:=w.drew) x _ w.heap.size m rfl,pu I];rfl
  have aL:∀m,C.frozen? ⟨w.heap.size,m,M⟩=Z:=λm=>by rw[q0];exact World.frozen?_alloc_at (w:=w.drew) x _ w.heap.size m rfl
  have aQ:∀g m v,g<w.heap.size->w.cell? ⟨g,m,M⟩=B v->C.cell? ⟨g,m,M⟩=B v:=λg m v af h=>by rw[q0,World.cell?_alloc_past (w:=w.drew) _ g m af];exact h
  have bp:(Q+1)*b<=ae*b:=j1 _ S
  have ba:(j+1)*b=j*b+b:=yz
  have br:(j+1)*b+(Q-j)*b=(Q+1)*b:=agu
  have a9:∀(de:d2),(∀a,de.cell? a=C.cell? a)->(∀a,de.frozen? a=C.frozen? a)->∀q s,(p6 #[k,k] q #[.slice (B ⟨w.heap.size,j*b,M⟩) (Q+1-j) s,.slice (B ⟨ah,ao,M⟩) 1 D]).run h6 de=.ok (goInt (1:Nat)) (de.setCells w.heap.size (j*b) aF):=λde aM bl q s=>
   NH de _ q i u ax ai b aU w.heap.size _ _ s ⟨ah,ao,M⟩ _ D 1 aF Qy I
    (λm v aw=>by
      have dI:=aj m v aw
      rw[iS]at dI⊢
      rw[aM]
      exact aQ _ _ v bc dI)
    (λm aw=>by rw[aM];exact aW _ I) (λm aw=>by rw[bl];exact aL _) G
  have aZ:∀(de:d2),(∀a,de.cell? a=(C.setCells w.heap.size (j*b) aF).cell? a)->(∀a,de.frozen? a=(C.setCells w.heap.size (j*b) aF).frozen? a)->∀q s av,(p6 #[k,k] q #[.slice (B ⟨w.heap.size,(j+1)*b,M⟩) (Q-j) s,.slice (B ⟨l,y+j*b,M⟩) (Q-j) av]).run h6 de=.ok (goInt (Q-j:Nat)) (de.setCells w.heap.size ((j+1)*b)<|P.drop<|j*b):=λde aM bl q s av=>
   NH de _ q i u ax ai b aU w.heap.size _ _ s ⟨l,y+j*b,M⟩ _ av (Q-j) (P.drop<|j*b) Qy ad
    (λm v aw=>by
      have dI:=az (j*b+m) v (by rwa[j2]at aw)
      rw[iS,<-lH]at dI
      rw[iS,aM,HI _ _ _ _ _ (λh _=>absurd h (by show l≠w.heap.size;omega))]
      exact aQ _ _ v aR dI)
    (λm aw=>by
      rw[ad]at aw
      have dI:=aW ((j+1)*b+m) I
      rw[aM,HI _ _ _ _ _ (λ_ _=>Or.inr (dd:j*b+F aF<=(j+1)*b+m))]
      exact dI)
    (λm aw=>by rw[bl,Vq];exact aL _) λv ab=>bn v<|uv ab
  have bf:fL w (λ_ _=>False) ((C.setCells w.heap.size (j*b) aF).setCells w.heap.size ((j+1)*b)<|P.drop<|j*b):=((fL.rS<|Ext.drew w).trans a8 λ_ _ _ h=>h.elim)
  subst q0
  have bm:(((w.alloc<|.cells x i).drew.setCells w.heap.size (j*b) aF).drew.setCells w.heap.size ((j+1)*b)<|P.drop<|j*b)=(((w.drew.alloc<|.cells x i).setCells w.heap.size (j*b) aF).setCells w.heap.size ((j+1)*b)<|P.drop<|j*b).drew:=by rw[Ua];rfl
  replace bf:=bf.trans (fL.rS<|Ext.drew _) λ_ _ _ h=>h.elim
  rw[<-bm]at bf
  replace aa:(((w.drew.alloc<|.cells x i).setCells w.heap.size (j*b) aF).setCells w.heap.size ((j+1)*b)<|P.drop<|j*b).drew.ownsRow 0 i b (.slice (B ⟨w.heap.size,0,M⟩) (Q+1) ae) (Q+1) (P.take (j*b)++aF++P.drop (j*b)):=aa
  rw[<-bm]at aa
  have a4:∀a,((w.alloc<|.cells x i).drew).cell? a=(w.drew.alloc<|.cells x i).cell? a:=λa=>rfl
  have a5:∀a,((w.alloc<|.cells x i).drew).frozen? a=(w.drew.alloc<|.cells x i).frozen? a:=λa=>rfl
  have a6:∀a,(((w.alloc<|.cells x i).drew.setCells w.heap.size (j*b) aF).drew).cell? a=((w.drew.alloc<|.cells x i).setCells w.heap.size (j*b) aF).cell? a:=λa=>rfl
  have a7:∀a,(((w.alloc<|.cells x i).drew.setCells w.heap.size (j*b) aF).drew).frozen? a=((w.drew.alloc<|.cells x i).setCells w.heap.size (j*b) aF).frozen? a:=λa=>rfl
  have bh:¬((j:Int)=(Q:Int)):=I
  have bt:Q+1<=ae:=S
  have bo:ae<=9223372036854775807:=by unfold maxLen at aB;omega
  have bq:¬(ae=j):=I
  have bs:¬(ae=j+1):=I
  have aD:¬(Q=j):=I
  have bx:(Q:Int)<(Q:Int)+1:=I
  have bL:W.wrap ((j:Int)+1)=(j:Int)+1:=W0
  have a1:(0:Int)<=(j:Int)+1:=I
  have bg:((j:Int)+1).toNat=j+1:=I
  have ak:(j:Int)<=(Q:Int):=I
  have bw:W.wrap ((Q:Int)+1)=(Q:Int)+1:=W0
  have bu:W.wrap ((Q:Int)+1-(j:Int))=(Q:Int)+1-(j:Int):=W0
  clear az aj aG aH newRow br ad a_ ba aK au ap aC jt aT aV aq aW aL aQ a8
  try dsimp only[i,k,b,al]at*
  go_enter zfI,znI
  go_wp2_with (first
   |(at_builtin;refine On _ rfl _ _ _ _ rfl _ _ rfl rfl _ _ (aJ _) ?_)
   |(at_builtin;refine UE _ rfl _ _ k k rfl _ _ rfl rfl (a9 _ a4 a5 _ _) ?_)
   |(at_builtin;refine UE _ rfl _ _ k k rfl _ _ rfl rfl (aZ _ (λ_=>rfl) (λ_=>rfl) _ _ _) ?_))
  go_region_law_o (refine aeR rfl _ _ k k rfl (.slice (B ⟨w.heap.size,(j+1)*b,M⟩) (Q-j)<|ae-(j+1)) (.slice (B ⟨l,y+j*b,M⟩) (Q-j)<|Q-j) Qz Qz (aZ _ a6 a7 3 (ae-(j+1))<|Q-j) ?_)
  go_wp2
  go_ret
  rw[Ua]at aa bf
  exact⟨_,rfl,aa,bf,λg af=>(by have af:B w.heap.size=B g:=af;cases af;exact jq _)⟩):z:=a
theorem MF{z:Prop}(a:z:=by
 have bj:h6.follows .mixedOrders=T:=by kernel_rfl
 intro w o aB Q j P aF aZ d aR aO G bn aI am
 have ax:h6.underlying k=B (.slice i):=by kernel_rfl
 obtain⟨bb,a4,a0,bc,a9,a5,a7⟩:=kK aZ
 subst a0
 obtain⟨bP,D,bG,bo,bT,bU,bK⟩:=kK d
 subst bG
 have a1:a4<=9223372036854775807:=by unfold maxLen at a9;omega
 have aJ:Q<=a4:=bc
 have bk:F aF=b:=by rw[d.1]
 obtain dI|⟨ah,rfl,bF⟩:=bK
 .exact absurd dI h8
 have aj:∀m p,aF[m]?=B p->w.cell? ((⟨ah,0,M⟩:mX).add m)=B p:=d.cells rfl
 by_cases bv:j=Q
 .subst bv
  have a3:∀q,∃aY aE,(qz #[k,k] q #[.slice bb j a4,.slice (B ⟨ah,0,M⟩) 1 D]).run h6 w=.ok aY aE/\aE.ownsRow 0 i b aY (j+1) (P++aF)/\fL w (λl y=>(xG bb j a4).ownBlock=B l/\j*b<=y) aE/\∀g,aY.ownBlock=B g->(xG bb j a4).ownBlock=B g\/w.heap.size<=g:=λq=>T4 k q i u an b al ax ai N aU A K h8 (.slice bb j a4) j P aZ ⟨ah,0,M⟩ 1 D aF I aj G h8 aI am
  obtain⟨aY,aE,ay,aS,aN,a2⟩:=a3 k
  have aa:aE.ownsRow 0 i b aY (j+1) (P.take (j*b)++aF++P.drop (j*b)):=by
   rw[k9 agv,Co agv,nb]
   exact aS
  clear aR d bF aS
  clear a3
  obtain ap|ap:a4=j\/¬a4=j:=Decidable.em _
  all_goals(
   try subst ap
   try dsimp only[i,k,b,al,ag]at*
   go_enter zfI,znI
   go_wp2_with (at_builtin;refine On _ rfl _ _ _ _ rfl _ _ rfl rfl _ _ ay ?_)
   go_ret
   exact⟨_,rfl,aa,aN.kN λl y h=>h.1,a2⟩)
 .have aX:j<Q:=by omega
  obtain bQ|⟨l,rfl,bH⟩:=a7
  .omega
  have bC:ah≠l:=λh=>aR l rfl Lh
  obtain⟨aW,aV,ao,aC,_,au,aL,aT,aK,a6⟩:∃aW aV ao,xG (B ⟨l,0,M⟩) Q a4=.slice (B ⟨aW,0,M⟩) Q aV/\0<=aW/\w.heap[aW]?=B (.cells ao i (0,0))/\Q<=aV/\aV<=maxLen/\ao.size=aV*b/\ao.toList.take (Q*b)=P:=by
   rcases aZ.2 with h|h
   .cases h.1
   .exact h
  cases aC
  obtain⟨aP,aA,ae,bM,_,bp,bV,bW,bN,bO⟩:∃aP aA ae,xG (B ⟨ah,0,M⟩) 1 D=.slice (B ⟨aP,0,M⟩) 1 aA/\0<=aP/\w.heap[aP]?=B (.cells ae i (0,0))/\1<=aA/\aA<=maxLen/\ae.size=aA*b/\ae.toList.take (1*b)=aF:=by
   rcases d.2 with h|h
   .cases h.1
   .exact h
  cases bM
  have a_:F P=Q*b:=aZ.1
  have bD:w.shape? ah=B (i,ae.size):=by simp[Vr,bp]
  have bE:w.shape? l=B (i,ao.size):=by simp[Vr,au]
  have bB:ao.size≠0:=by
   rw[aK]
   exact Nat.mul_ne_zero I I
  have bA:w.frozen? ⟨ah,0,M⟩=Z:=by simp[sg,bp]
  have bm:w.frozen? ⟨ah,ae.size,M⟩=Z:=by simp[sg,bp]
  have bt:∀m,w.frozen? ⟨l,m,M⟩=Z:=λm=>by simp[sg,au]
  have bs:∀m,m<a4*b->(w.cell? ⟨l,m,M⟩).isSome=T:=λm aw=>by
   simp only[World.cell?,au]
   rw[pu I];rfl
  have az:∀m p,P[m]?=B p->w.cell? ((⟨l,0,M⟩:mX).add m)=B p:=aZ.cells rfl
  have ad:F (P.drop<|j*b)=(Q-j)*b:=ags
  have bu:∀aq bx bq,(callFunc ag #[.slice (B ⟨ah,0,M⟩) 1 D,.slice (B ⟨l,aq,M⟩) bx bq]).run h6 w=.ok (.value<|.bool Z) w:=λaq bx bq=>by
   rw[run_callFunc_extern zfO (by kernel_rfl) (by kernel_rfl) (by kernel_rfl) (e:=afO #[k,k] #[4]) (by kernel_rfl),
    Lib.run_overlaps_apart w k 4 i ax b (λw=>by simp[sizeOf,typeInfo,i,b,ai,aU]) ⟨ah,0,M⟩ ⟨l,aq,M⟩ 1 D bx bq bC i i ae.size ao.size bD bE bB bA bm]
   rfl
  by_cases t:Q+1<=a4
  .obtain⟨aa,a8⟩:=alM (w:=w.drew) aZ t aO bk
   have ba:(j+1)*b=j*b+b:=yz
   have bI:(Q+1)*b<=a4*b:=j1 _ t
   have br:(j+1)*b+(Q-j)*b=(Q+1)*b:=agu
   have bz:∀q s av,(p6 #[k,k] q #[.slice (B ⟨l,(j+1)*b,M⟩) (Q-j) s,.slice (B ⟨l,j*b,M⟩) (Q+1-j) av]).run h6 w.drew=.ok (goInt (Q-j:Nat)) (w.drew.setCells l ((j+1)*b)<|P.drop<|j*b):=λq s av=>
    NH w.drew _ q i u ax ai b aU l _ _ s ⟨l,j*b,M⟩ _ av (Q-j) (P.drop<|j*b) Qy ad
     (λm v aw=>by rw[iS];have:=az (j*b+m) v (by rwa[j2]at aw);rw[iS,gx]at this;exact this)
     (λm aw=>bs _ (by rw[ad]at aw;omega)) (λm _=>bt _) λv ab=>bn v<|uv ab
   obtain⟨C,q0⟩:∃C,C=w.drew.setCells l ((j+1)*b) (P.drop (j*b)):=⟨_,rfl⟩
   have bJ:∀(de:d2),(∀a,de.cell? a=C.cell? a)->(∀a,de.frozen? a=C.frozen? a)->∀q s,(p6 #[k,k] q #[.slice (B ⟨l,j*b,M⟩) (Q+1-j) s,.slice (B ⟨ah,0,M⟩) 1 D]).run h6 de=.ok (goInt (1:Nat)) (de.setCells l (j*b) aF):=λde aM bl q s=>
    NH de _ q i u ax ai b aU l _ _ s ⟨ah,0,M⟩ _ D 1 aF Qy I
     (λm v aw=>by
       have dI:=aj m v aw
       rw[iS]at dI⊢
       rw[aM,q0,HI l _ _ _ _ (λh _=>absurd h bC)]
       exact dI)
     (λm aw=>by
       have bS:j*b<=Q*b:=j1 _ aO
       have bd:(Q+1)*b=Q*b+b:=yz
       rw[aM,q0,HI l _ _ _ _ (λ_ _=>Or.inl (dd:j*b+m<_))]
       exact bs (j*b+m) I)
     (λm aw=>by rw[bl,q0,Vq];exact bt _) G
   rw[<-q0]at bz aa a8
   have bf:fL w (λg _=>(xG (B ⟨l,0,M⟩) Q a4).ownBlock=B g) (C.setCells l (j*b) aF):=((fL.rS<|Ext.drew w).kN (a:=λg _=>(xG (B ⟨l,0,M⟩) Q a4).ownBlock=B g) λ_ _ h=>h.elim).trans a8 λg _ _ h=>Lh
   have bL:W.wrap ((j:Int)+1)=(j:Int)+1:=agw
   have a1:(0:Int)<=(j:Int)+1:=I
   have bg:((j:Int)+1).toNat=j+1:=I
   have bR:¬(a4=j+1):=I
   have ak:(j:Int)<=(Q:Int)+1:=I
   have x:¬(a4=j):=I
   have bh:¬((j:Int)=(Q:Int)):=I
   have bw:W.wrap ((Q:Int)+1)=(Q:Int)+1:=agw
   have S:¬((a4:Int)<(Q:Int)+1):=I
   clear bs az bt aZ d bF bH au bp aK bN a6 bO aR bD bE bA bm q0 br bI ad a_ bB ba
   try dsimp only[i,k,b,al,ag]at*
   go_enter zfI,znI
   go_wp2_with (simp only[bu])
   go_region_law_o (refine aeR rfl _ _ k k rfl _ _ Qz Qz (bz _ _ _) ?_)
   go_wp2_with (at_builtin;refine UE _ rfl _ _ k k rfl _ _ rfl rfl (bJ _ (λ_=>rfl) (λ_=>rfl) _ _) ?_)
   go_ret
   exact⟨_,rfl,aa,bf,λg af=>.inl af⟩
  .obtain rfl:Q=a4:=by omega
   exact(ar w _ l 0 ah 0 D Q j P aF (.inr<|.inr rfl) a_ (λm p h=>by have:=az m p h;rwa[iS]at this) bk (λm p h=>by have:=aj m p h;rwa[iS]at this) aO G bn aI am).mono λgQ aE ⟨aY,aG,aD,aQ,aH⟩=>⟨aY,aG,aD,aQ.kN λ_ _ h=>h.elim,λg af=>.inr<|aH g af⟩):z:=a
section
open Go.Proofs.Tryz renaming func401->zfI,ntmps401->znI
def alC(u:n9)(an:dp)(ai:h6.info? 282=B u)(N:u.zero=B an)(K:an.cells.size=4)(aU:u.size=4)(A:u.bytes=48):AJ h6 401 282 4 48:=by
 let i:=282
 let k:=266
 let b:=4
 let al:=48;exact Gh
end
section
open Go.Proofs.Tryz renaming func367->zfI,ntmps367->znI,func429->zfO
def alD(u:n9)(an:dp)(ai:h6.info? 382=B u)(N:u.zero=B an)(K:an.cells.size=40)(aU:u.size=40)(A:u.bytes=96):AJ h6 367 382 40 96:=by
 let i:=382
 let k:=108
 let b:=40
 let al:=96;exact Gh
def alI(u:n9)(an:dp)(ai:h6.info? 382=B u)(N:u.zero=B an)(K:an.cells.size=40)(aU:u.size=40)(A:u.bytes=96):yu h6 367 382 40 96:=by
 have ar:=alD u an ai N K aU A
 let i:=382
 let k:=108
 let b:=40
 let al:=96
 let ag:=429;exact MF
end
section
open Go.Proofs.Tryz renaming func434->zfI,ntmps434->znI,func485->zfO
def alF(u:n9)(an:dp)(ai:h6.info? 378=B u)(N:u.zero=B an)(K:an.cells.size=38)(aU:u.size=38)(A:u.bytes=80):AJ h6 434 378 38 80:=by
 let i:=378
 let k:=105
 let b:=38
 let al:=80;exact Gh
def alK(u:n9)(an:dp)(ai:h6.info? 378=B u)(N:u.zero=B an)(K:an.cells.size=38)(aU:u.size=38)(A:u.bytes=80):yu h6 434 378 38 80:=by
 have ar:=alF u an ai N K aU A
 let i:=378
 let k:=105
 let b:=38
 let al:=80
 let ag:=485;exact MF
end
section
open Go.Proofs.Tryz renaming func459->zfI,ntmps459->znI,func499->zfO
def alB(u:n9)(an:dp)(ai:h6.info? 375=B u)(N:u.zero=B an)(K:an.cells.size=8)(aU:u.size=8)(A:u.bytes=56):AJ h6 459 375 8 56:=by
 let i:=375
 let k:=104
 let b:=8
 let al:=56;exact Gh
def alH(u:n9)(an:dp)(ai:h6.info? 375=B u)(N:u.zero=B an)(K:an.cells.size=8)(aU:u.size=8)(A:u.bytes=56):yu h6 459 375 8 56:=by
 have ar:=alB u an ai N K aU A
 let i:=375
 let k:=104
 let b:=8
 let al:=56
 let ag:=499;exact MF
end
section
open Go.Proofs.Tryz renaming func503->zfI,ntmps503->znI,func521->zfO
def alE(u:n9)(an:dp)(ai:h6.info? 260=B u)(N:u.zero=B an)(K:an.cells.size=39)(aU:u.size=39)(A:u.bytes=88):AJ h6 503 260 39 88:=by
 let i:=260
 let k:=106
 let b:=39
 let al:=88;exact Gh
def alJ(u:n9)(an:dp)(ai:h6.info? 260=B u)(N:u.zero=B an)(K:an.cells.size=39)(aU:u.size=39)(A:u.bytes=88):yu h6 503 260 39 88:=by
 have ar:=alE u an ai N K aU A
 let i:=260
 let k:=106
 let b:=39
 let al:=88
 let ag:=521;exact MF
end
end Go.Proofs.YtddmdeaegbfhaaaGreat
