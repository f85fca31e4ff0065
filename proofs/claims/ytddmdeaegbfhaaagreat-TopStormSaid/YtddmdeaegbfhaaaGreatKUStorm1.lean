/- Part 1 of what the proof of this law rests on. -/
import Derived.WalkKit
import Derived.StillTail
import Derived.BigQuiet
import Derived.Laws.AppendOwn
import Derived.Laws.IdiomCopy
import Derived.Laws.NewBlocks
import Derived.Laws.Cells
import Derived.Laws.Entries
import Derived.Laws.Small
import Derived.DeepKeys
import Derived.Laws.Tables
import Derived.Great.BuildSlice
import Derived.Laws.StructEq
import Derived.ChangeKeysEq
import Derived.Laws.Append
import Derived.Laws.MakeOwn
import Derived.Laws.OwnMore
import Derived.Lib.Bytealg
import Derived.Laws.Cover3
import Derived.Laws.BytesArg
import Derived.Laws.IdiomStrings
import Derived.Lib.AppendZerosOnto
import Derived.Test.YtddmdeaegbfhaaaGreatRows
import Derived.ProofKit
import Derived.OpenShut
import Derived.ShutString
import Derived.ChangeOld
import Derived.SizedLaws
import Derived.Below
import Derived.Deep.MidRow
import Derived.OwnWalk
import Derived.Lib.AppendZeros
import Derived.Lib.Overlaps
import Derived.Shelf.RegionOpenPlain
import Derived.Laws.Externs
import Derived.Test.YtddmdeaegbfhaaaGreatChecked
namespace Go.Proofs.YtddmdeaegbfhaaaGreat
set_option linter.all false
open Go.RowKit
open _root_.Array renaming empty_append->U1,eq_empty_of_size_eq_zero->zA,ext_getElem?->v6,foldl->zN,foldl_toList->VP,getD_eq_getD_getElem?->oH,getElem?_append_left->r_,getElem?_append_right->HU,getElem?_eq_getElem->pu,getElem?_eq_none->uy,getElem?_eq_some_iff->l4,getElem?_extract->Cu,getElem?_modify->HY,getElem?_replicate->UX,getElem?_setIfInBounds->HV,getElem?_toList->v5,length_toList->pz,map_empty->U4,range->UT,replicate->Cg,size_append->zE,toArray_toList->lF,toList_append->ul,toList_zipIdx->VQ
open _root_.BitVec renaming ofInt->n8
open _root_.Bool renaming and_eq_true->fz,false_eq_true->j0,false_or->r7,not_eq_true'->xA,not_true->xE,or_eq_false_iff->UN,or_eq_true->lc,false->Z,true->T
open _root_.Classical renaming byContradiction->Hx,choose->VL,choose_spec->OH
open _root_.Decidable renaming not_not->VO
open _root_.Function renaming comp->HA
open Go renaming Addr->mX,BinOp->nL,Code->k7,Exit->fE,Func->n5,FuncId->gk,binOp->zL,IntKind->g0,Oper->dy,Operand->hp,Program->dw,ResultVar->qy,TypeId->f1,TypeInfo->n9,Value->dp,World->d2
open Go.Builtin renaming append_->qz,firstCells->Hz,lenOf->v3,zeroCells->nJ
open Go.Instr renaming buildSlice->U3,fill->uz,indexAt->zM,loadAt->VM,sliceBound->um,sliceBounds->un,storeAt->UL,sureAddr->qB
open Go.IntKind renaming i64->W
open Go.Op renaming operands->VK,unary->OG
open Go.Oper renaming upon->ly,wp->ln
open Go.Region renaming binds->Ci,ready->UV,wanted->xF
open Go.Result renaming andThen_ok->gn
open Go.Sem renaming run->mZ,run_bind->g3,run_pure->hM
open Go.Value renaming ownBlock->n6
open Go.World renaming block_lt_of_cell?->rk,cell?->HT,cell?_setCells_in->UK,frozen?->sg,ownsRow_nil->U2,setCell->HW
open _root_.List renaming all_cons->v1,all_eq_true->fp,all_map->Ch,append_assoc->iu,append_nil->nb,append_of_mem->UW,cons_append->r8,drop_zero->v4,eq_nil_of_length_eq_zero->mw,ext_getElem?->tp,filter_cons->v7,find?_some->UO,getElem?_append->p7,getElem?_append_left->tj,getElem?_append_right->rc,getElem?_cons_succ->VN,getElem?_drop->j2,getElem?_eq_getElem->e6,getElem?_eq_none->pv,getElem?_eq_some_iff->ie,getElem?_map->gy,getElem?_of_mem->xC,getElem?_range'->UZ,getElem?_set->sa,getElem?_take->jd,getElem?_toArray->HB,getElem_mem->fi,getElem_of_mem->N_,getElem_range->zB,isEmpty_iff->UU,length->F,length_append->g9,length_cons->l6,length_drop->my,length_eq_one_iff->xB,length_map->fT,length_nil->kv,length_pos_iff->Ck,length_range->tl,length_take->hO,map_append->hN,map_congr_left->pw,map_cons->hx,map_id'->Cp,map_map->xD,map_nil->jY,map_toArray->p5,mem_append->gq,mem_append_left->r9,mem_append_right->tk,mem_cons->l3,mem_cons_of_mem->HM,mem_map->hT,mem_of_getElem?->lp,mem_range'_1->UY,nil_append->k8,range->jG,replicate->fe,reverse_cons->U0,size_toArray->qA,take_left->rg
open _root_.List.Sublist renaming append_left->Od
open _root_.List.cons renaming injEq->tm
open _root_.Nat renaming add_assoc->lH,add_mul->jZ,add_zero->jO,div_add_mod->Oc,div_eq_of_lt->UM,div_lt_of_lt_mul->Ob,le_refl->jq,le_trans->mY,lt_of_lt_of_le->Ct,lt_or_ge->la,min_eq_left->jw,mod_eq_of_lt->Oa,mod_lt->zC,mul_add_mod->UR,mul_comm->re,mul_le_mul_right->j1,mul_one->uq,not_lt->OI,not_lt_zero->VD,one_mul->rh,pos_of_ne_zero->UQ,strongRecOn->Cf,sub_zero->ti,zero_add->gx,zero_le->ny,zero_mul->zD
open _root_.Ne renaming symm->l5
open _root_.Option renaming bind_eq_some_iff->jc,bind_some->cI,getD_some->n7,isNone_iff_eq_none->zz,isSome_iff_exists->lb,isSome_none->tu,map_eq_some_iff->gG,map_none->oD,map_some->iq,none->M,some->B
open _root_.Option.some renaming inj->mg,injEq->h0
open _root_.Prod.mk renaming injEq->mh
def df:Nat:=1000000
def oU:Nat:=900034
def oV:Nat:=900035
def ob:Nat:=900036
def gv:Nat:=900002
def c9:Nat:=900000
def c8:Nat:=600000
def e8:Nat:=600002
def eK:Nat:=600001
def j4:Nat:=900004
def su:Nat:=1000003
def rv:Nat:=900008
def mj:Nat:=900006
def oc:Nat:=900037
def oW:Nat:=900041
def oX:Nat:=900055
def mD:Nat:=900003
def u1:Nat:=900005
def ng:Nat:=900001
def g_:Nat:=600003
def iW:Nat:=600004
def sv:Nat:=2000000
def sw:Nat:=2000010
def u0:Nat:=2000011
def AN:Nat:=900014
def tI:Nat:=900056
def sx:Nat:=900057
def u2:Nat:=900058
def u3:Nat:=900059
def wE:Nat:=900060
def tJ:Nat:=900061
def sy:Nat:=900063
def kP:Nat:=600005
def mC:Nat:=600006
def nz:Nat:=600007
def nA:Nat:=600008
def nB:Nat:=600009
def wD:Nat:=900038
def fY:Nat:=700012
def sA:Nat:=900066
def k4:Nat:=900064
def rs:Nat:=1000001
def eF:Nat:=700011
def e0:Nat:=700013
def ru:Nat:=602003
def lq:Nat:=602000
def nS:Nat:=602001
def oT:Nat:=602002
def qG:Nat:=602004
def rt:Nat:=2000004
def tH:Nat:=2000007
def nR:Nat:=2000002
def pI:Nat:=2000006
def EO:Nat:=2000008
def oS:Nat:=2000038
def EP:Nat:=2000041
def hP:Nat:=704013
def lz:Nat:=704011
def ld:Nat:=704012
def AM:Nat:=2000001
def qd:Nat:=2000003
def kw:Nat:=604000
def gC:Nat:=606000
def dE{c:Prop}{h:Decidable c}(i:c){α:Type}{a b:α}:ite c a b=a:=_root_.if_pos i
def dA{c:Prop}{h:Decidable c}(i:¬c){α:Type}{a b:α}:ite c a b=b:=_root_.if_neg i
def i6{p:Prop}[i:Decidable p]:(decide p=true)=p:=_root_.decide_eq_true_eq
def f8{p:Prop}[i:Decidable p](h:decide p=true):p:=_root_.of_decide_eq_true h
def c6{α:Type}(a b:α):cond true a b=a:=rfl
def dm{α:Type}(a b:α):cond false a b=b:=rfl
abbrev E:=List.{0}
abbrev X:=Option.{0}
section
variable{p:Prop}
def I(x:p:=by omega):p:=x
def fv(x:p:=by simp;omega):p:=x
def rz(x:p:=by simpa using b):p:=x
def dh(x:p:=by simp):p:=x
def ahh(x:p:=by unfold Addr.add;split<;>simp_all):p:=x
def ahk(x:p:=by rw[af.aaq (World.block_lt_of_cell? w _ aI)];exact aM):p:=x
def Ll(x:p:=by simpa using aA):p:=x
def hD(x:p:=by simp[cK,Op.operands]):p:=x
def ml(x:p:=by simp[cK,Op.operands,Call.operands]):p:=x
def Xz(x:p:=by simpa using k):p:=x
def ET(x:p:=by simp at G):p:=x
def wF(x:p:=by simpa using G):p:=x
def W5(x:p:=by rw[cK];simp only[Op.operands];exact atv Y):p:=x
def o0(x:p:=by cases h):p:=x
def yx(x:p:=by simp[gc,aA]):p:=x
def agJ(x:p:=by simp[Program.cellsOf,hi]):p:=x
def agO(x:p:=by unfold pD;rw[if_pos z];exact cU):p:=x
def qe(x:p:=by simpa using h):p:=x
def ag1(x:p:=by rw[kZ,if_pos rfl]at G;cases G;exact aU aH):p:=x
def lL(x:p:=by cases C):p:=x
def Xk(x:p:=by cases e;simp[cO]at d):p:=x
def Lg(x:p:=by simp at ad):p:=x
def QK(x:p:=by simp[b]):p:=x
def u5(x:p:=by simp[cO]at d):p:=x
def QL(x:p:=by simp[D]):p:=x
def QM(x:p:=by simp[z,av]):p:=x
def Xl(x:p:=by cases a<;>simp_all[eD.kr,eD.map]):p:=x
def ag7(x:p:=by obtain⟨aA,aj,_,aT,aK⟩:=Q l aS C;exact A.eV.may l aS ⟨aA,aj,aT,aK⟩ au):p:=x
def Lh(x:p:=by rw[h];rfl):p:=x
def ag8(x:p:=by simp only[execOp,cK,Option.map_none,Instr.sliceAt,Instr.slice,run_underlying aA,ar,af,sizeOf,typeInfo,program,P,Sem.run_bind,Sem.run_pure,Sem.run,Result.andThen_ok];rfl):p:=x
def Lj(x:p:=by cases i<;>rfl):p:=x
def QN(x:p:=by simp[cO]at h):p:=x
def yz(x:p:=by rw[Nat.add_mul,Nat.one_mul]):p:=x
def E3(x:p:=by simp[maxLen]):p:=x
def Lk(x:p:=by rw[G];rfl):p:=x
def wH(x:p:=by simp[cQ.cL]):p:=x
def Xm(x:p:=by simp only[cQ.cL];rw[b];exact al):p:=x
def o1(x:p:=by simp only[cQ.cL];omega):p:=x
def ag9(x:p:=by simp only[cQ.cL,List.drop_zero,List.length_take];omega):p:=x
def sD(x:p:=by rw[aP]):p:=x
def tL(x:p:=by rw[aP];omega):p:=x
def ag_(x:p:=by simp only[cQ.cL,List.length_take,List.length_drop];omega):p:=x
def aha(x:p:=by simp only[maxLen]at aI;omega):p:=x
def ahb(x:p:=by rw[List.length_append,aZ.1,cN,Nat.add_mul]):p:=x
def ahc(x:p:=by have aa:=a;simp only[Nat.zero_add]at aa;omega):p:=x
def AR(x:p:=by simp only[Value.ownBlock,Option.some.injEq]at af;omega):p:=x
def ahd(x:p:=by simp only[List.length_take,Array.length_toList];omega):p:=x
def ahe(x:p:=by rw[kZ,if_pos rfl]):p:=x
def ahf(x:p:=by rw[<-ag e (ax e G)];exact b):p:=x
def ahg(x:p:=by have:=N e G;subst this;rw[m]at b;cases b;exact aU aH):p:=x
def ahi(x:p:=by have:=N e G;subst this;rw[m]at b;cases b;exact absurd rfl (s S)):p:=x
def Xn(x:p:=by obtain⟨o,_,rfl⟩:=List.mem_map.1 d;exact aq o):p:=x
def wI(x:p:=by unfold maxLen;omega):p:=x
def E4(x:p:=by simp[ai]):p:=x
def E5(x:p:=by simp[ai,C]):p:=x
def ahj(x:p:=by have:=r.eV.gJ.size;omega):p:=x
def rA(x:p:=by simp[dY.iP]):p:=x
def yA(x:p:=by simp[dY.iP,am]):p:=x
def Xo(x:p:=by rw[z];exact k):p:=x
def Xp(x:p:=by simp only[cP.f3,kZ];rw[if_neg dd];exact za cN):p:=x
def ahl(x:p:=by rw[io,if_pos rfl]):p:=x
def ahm(x:p:=by rw[List.length_map,ake]):p:=x
def ahn(x:p:=by rw[aP,Array.length_toList,s]):p:=x
def Xq(x:p:=by rw[aP];exact Nat.le_refl _):p:=x
def QO(x:p:=by simp only[Value.ownBlock,Option.some.injEq]at aJ;omega):p:=x
def aho(x:p:=by rw[dI]at af;simp at af):p:=x
def Xr(x:p:=by rw[<-az,Bk,List.length_map,Array.length_toList,K]):p:=x
def ahp(x:p:=by rw[aP,List.length_take,Array.length_toList,aj];omega):p:=x
def Xs(x:p:=by rw[aO,Nat.zero_mul]):p:=x
def Xt(x:p:=by simpa using aL):p:=x
def ahq(x:p:=by rw[<-Array.length_toList,a5,aU];simp):p:=x
def Lm(x:p:=by subst ad;simp[cK,Op.operands]):p:=x
def QP(x:p:=by subst ad;cases C<;>simp[cK,Op.operands]):p:=x
def Ln(x:p:=by rw[List.length_drop,ax,<-Nat.sub_mul];exact Nat.le_refl _):p:=x
def ahr(x:p:=by rw[List.length_drop,b];exact Nat.le_refl _):p:=x
def ahs(x:p:=by rw[List.length_map]at b;omega):p:=x
def E6(x:p:=by rw[ax];omega):p:=x
def QQ(x:p:=by rw[List.length_map]at S;exact S):p:=x
def yB(x:p:=by rw[List.length_take];omega):p:=x
def QR(x:p:=by simp[aI]):p:=x
def Xu(x:p:=by rw[g l y (St.1 a)]at ab;cases ab):p:=x
def aht(x:p:=by rw[a8.aaq (World.block_lt_of_cell? w _ aC)];exact au):p:=x
def QS(x:p:=by simp[io]):p:=x
def ahu(x:p:=by cases C<;>simp[cK,Op.operands]):p:=x
def E7(x:p:=by rw[z]):p:=x
def ahv(x:p:=by rw[List.length_map,aP]):p:=x
def Xv(x:p:=by rw[afF];omega):p:=x
def Xw(x:p:=by simpa using d):p:=x
def Xx(x:p:=by rw[Int.natCast_pow];rfl):p:=x
def Xy(x:p:=by rcases cK with cK|cK<;>simp[cK,Op.operands]):p:=x
def ahw(x:p:=by rw[List.length_drop,ax]):p:=x
def ahx(x:p:=by rw[List.length_take,Array.length_toList,b];omega):p:=x
def ahy(x:p:=by obtain⟨an,_,rfl⟩:=List.mem_map.1 ad;exact aq an):p:=x
def ahz(x:p:=by simp only[List.length_append,List.length_take,List.length_drop,List.length_singleton];omega):p:=x
def ahA(x:p:=by rw[ax];exact Nat.mul_le_mul_right _ al):p:=x
def ahB(x:p:=by simp only[aN,dY.w9,al]):p:=x
def E8(x:p:=by cases aa;rfl):p:=x
def yC(x:p:=by simp[fX.need,cO]at h):p:=x
def wJ(x:p:=by simp[ud]at h):p:=x
def ahC(x:p:=by have:=aM m p h;rwa[iS]at this):p:=x
def WZ(x:p:=by rw[aU];omega):p:=x
def h8(x:p:=by decide):p:=x
def agr(x:p:=by rw[a_];exact Nat.le_refl _):p:=x
def ags(x:p:=by rw[List.length_drop,a_,Nat.sub_mul]):p:=x
def agt(x:p:=by rw[List.length_take,a_,Nat.min_eq_left (Nat.mul_le_mul_right _ aO)]):p:=x
def agu(x:p:=by rw[<-Nat.add_mul];congr 1;omega):p:=x
def Qy(x:p:=by simp only[Nat.min_def];split<;>omega):p:=x
def W0(x:p:=by rw[IntKind.wrap_i64];omega):p:=x
def Qz(x:p:=by simp[Act.eval,Act.put]):p:=x
def agv(x:p:=by rw[aZ.1];exact Nat.le_refl _):p:=x
def agw(x:p:=by rw[IntKind.wrap_i64];unfold maxLen at aI;omega):p:=x
def agx(x:p:=by simp only[b,kZ,if_true]):p:=x
def QA(x:p:=by simpa[D]using h):p:=x
def EU(x:p:=by simpa using C):p:=x
def W1(x:p:=by subst x;exact dt 6<|eI 8 [16] [] b λb=>eI 8 [19] [] b λb=>cJ 6 b):p:=x
def agy(x:p:=by subst a1;exact dt 9<|cJ 7 G):p:=x
def agz(x:p:=by subst a1;exact dt 9<|cJ 6 b):p:=x
def agA(x:p:=by cases h;exact Ff _ atn rfl J J):p:=x
def agB(x:p:=by subst aJ;exact dt 7<|cJ 8 b):p:=x
def agC(x:p:=by cases G;exact aie (d.1,d.2) ⟨[(0,[]),(1,[]),(2,[]),(8,[]),(9,[]),(10,[])],[(600000,(600000,[])),(9,(9,[2]))]⟩ rfl J J J):p:=x
def ew(x:p:=by simp only;omega):p:=x
def W2(x:p:=by unfold fF;omega):p:=x
def agD(x:p:=by unfold iE;split<;>(try split)<;>omega):p:=x
def Lb(x:p:=by rw[akk];omega):p:=x
def Lc(x:p:=by simp[sG]):p:=x
def oe(x:p:=by simp[cQ.cL];omega):p:=x
def lK(x:p:=by decide+kernel):p:=x
def W3(x:p:=by rw[Mz,FC]):p:=x
def W4(x:p:=by rw[Mz,rI]):p:=x
def AP(x:p:=by split<;>omega):p:=x
def W6(x:p:=by simpa using dI):p:=x
def W7(x:p:=by first|omega|(simp only;omega)):p:=x
def QB(x:p:=by simpa using Y):p:=x
def QC(x:p:=by rw[h.iN];rfl):p:=x
def QD(x:p:=by simp<;>omega):p:=x
def W8(x:p:=by have:=ax.1;omega):p:=x
def QE(x:p:=by have:=ax.2;omega):p:=x
def EV(x:p:=by simp[G8]):p:=x
def agE(x:p:=by simp only[List.length_append,List.length_take,gY];omega):p:=x
def W9(x:p:=by rw[gY];exact Nat.le_refl _):p:=x
def EW(x:p:=by rw[gY];omega):p:=x
def pJ(x:p:=by simp[gY];omega):p:=x
def W_(x:p:=by rw[h];exact ay):p:=x
def kQ(x:p:=by dsimp only;omega):p:=x
def Ld(x:p:=by show(0:Int)<=0;omega):p:=x
def agF(x:p:=by show(0:Int)<=List.length s;omega):p:=x
def Xa(x:p:=by rw[List.length_drop,List.length_take];omega):p:=x
def EX(x:p:=by cases g<;>rfl):p:=x
def EY(x:p:=by simp[gY,x];omega):p:=x
def agG(x:p:=by rw[List.mem_singleton.1 N];omega):p:=x
def QF(x:p:=by rw[h.rP];simp[cQ.cL]):p:=x
def of(x:p:=by simp[gY]):p:=x
def u4(x:p:=by simp[gY,f4]):p:=x
def Xb(x:p:=by cases ao<;>simp[kH]):p:=x
def Xc(x:p:=by simp[gY,K,cQ.cL];omega):p:=x
def Xd(x:p:=by simp[gY,f4,fk,cQ.cL]):p:=x
def agH(x:p:=by simp only[List.length_cons]at cN;omega):p:=x
def ry(x:p:=by cases N):p:=x
def Xe(x:p:=by rw[aB];omega):p:=x
def agI(x:p:=by rw[List.length_drop];omega):p:=x
def Xf(x:p:=by simpa using af):p:=x
def EZ(x:p:=by simpa using aE):p:=x
def E0(x:p:=by simp[v0]):p:=x
def agK(x:p:=by simp only[List.length_append];omega):p:=x
def yy(x:p:=by simp[lm,aC,au]):p:=x
def agL(x:p:=by simp only[cQ.cL,List.length_append,List.length_cons,List.length_nil];omega):p:=x
def QG(x:p:=by rw[s];unfold lu;rw[e];simp):p:=x
def agM(x:p:=by intro an N;simp at N;omega):p:=x
def Xg(x:p:=by rcases h.next with C|C<;>omega):p:=x
def agN(x:p:=by rw[List.length_append];omega):p:=x
def Le(x:p:=by simp[qt]):p:=x
def E1(x:p:=by rw[e];rfl):p:=x
def agP(x:p:=by simpa only[p]using h.h.mN):p:=x
def agQ(x:p:=by simpa only[b]using h.mT.1):p:=x
def agR(x:p:=by rcases List.mem_append.1 aK with aK|aK;exact h.qv w aK;rw[List.mem_singleton.1 aK];exact cN):p:=x
def E2(x:p:=by simp only[cQ.cL,List.length_singleton];omega):p:=x
def AQ(x:p:=by rw[mV];rfl):p:=x
def agS(x:p:=by simp only[av,List.length_append,List.length_singleton]):p:=x
def agT(x:p:=by simp only[av,List.length_append,List.length_singleton];omega):p:=x
def pK(x:p:=by unfold fy;omega):p:=x
def agU(x:p:=by have:=of_decide_eq_false C;omega):p:=x
def agV(x:p:=by show List.length w.im<10;omega):p:=x
def agW(x:p:=by have:=of_decide_eq_false au;omega):p:=x
def agX(x:p:=by rw[List.take_length];exact am):p:=x
def agY(x:p:=by have:=aB _ (List.getElem_mem af);omega):p:=x
def wG(x:p:=by simp only[List.length_take,List.length_singleton];omega):p:=x
def agZ(x:p:=by unfold sp;rw[dz h.1,dz h.2];rfl):p:=x
def ag0(x:p:=by show List.length p.2.2<=_;omega):p:=x
def QH(x:p:=by simp only[List.length_singleton];omega):p:=x
def Xh(x:p:=by simp only[List.length_append,List.length_singleton];omega):p:=x
def ag2(x:p:=by show List.length z.2.2.2<=_;omega):p:=x
def ag3(x:p:=by simp only[pY,M2];omega):p:=x
def ag4(x:p:=by simp only[pY];unfold fy;omega):p:=x
def ag5(x:p:=by simp only[cQ.cL,List.length_append,List.length_singleton];omega):p:=x
def Lf(x:p:=by simp[Gv]):p:=x
def Xi(x:p:=by unfold iK;omega):p:=x
def ag6(x:p:=by simp only;rw[aV.2.1,ar]):p:=x
def QI(x:p:=by rw[cN];simp):p:=x
def QJ(x:p:=by rw[ah];rfl):p:=x
def Xj(x:p:=by rw[h];exact g):p:=x
end
abbrev eP:E Int:=[0,0,0,0,0,0,0,0,0,0,0,0,0,0,0,0]
def gs{t:Type}{z:t->Prop}(h:∀a,z a:=by intro _;kernel_rfl):∀a,z a:=h
def sK{t l:Type}{z:t->l->Prop}(h:∀a o,z a o:=by intro _ _;kernel_rfl):∀a o,z a o:=h
noncomputable section
section
def lB{z:Prop}(a:z:=by assumption):z:=a
def dd{z:Prop}(a:z:=by omega):z:=a
def wT{z:Prop}(a:z:=by simp):z:=a
theorem cU{z:Prop}(a:z:=by simp_all):z:=a
theorem ef{z:Prop}(a:z:=by grind):z:=a
structure qb where
 ext:Array Obj
 n:Nat
instance:Nonempty qb:=⟨⟨#[],0⟩⟩
def lE(w:d2)(x:qb):d2:={w with heap:=w.heap++x.ext,drawn:=x.n}
def Ext(w aE:d2):Prop:=∃x:qb,aE=lE w x
def qb.and(x h:qb):qb:=⟨x.ext++h.ext,h.n⟩
def qb.yZ(x:qb):qb:=⟨x.ext,x.n+1⟩
def Ext.refl(w:d2):Ext w w:=⟨⟨#[],w.drawn⟩,by simp[lE]⟩
def Ext.trans{t l c:d2}(h:Ext t l)(g:Ext l c):Ext t c:=by obtain⟨x,rfl⟩:=h;obtain⟨h,rfl⟩:=g;exact⟨x.and h,by simp[lE,qb.and]⟩
def Ext.RF{w aE:d2}(h:Ext w aE):Below w.heap.size w aE:=by obtain⟨x,rfl⟩:=h;refine⟨rfl,rfl,rfl,by simp[lE],λg af=>?_⟩;simp[lE,r_ af]
def Ext.am4{w aE:d2}(h:Below w.heap.size w aE):Ext w aE:=by
 have⟨G,a,b,k,d⟩:=h;refine⟨⟨aE.heap.extract w.heap.size aE.heap.size,aE.drawn⟩,?_⟩;have⟨heap,q,drawn,l,o⟩:=w;have⟨g,s,i,m,p⟩:=aE;simp only[lE]at*;subst G a b;simp only[World.mk.injEq,and_true];apply v6;intro j;rcases la j heap.size with hi|hi
 .rw[d j hi,r_ hi]
 .rw[HU hi];rcases la j g.size with aw|aw
  .rw[Cu,dE I];congr 1;omega
  .rw[uy aw,uy fv]
def Ext.drew(w:d2):Ext w w.drew:=⟨⟨#[],w.drawn+1⟩,by unfold lE World.drew;rw[Array.append_empty]⟩
def Ext.alloc(w:d2)(y:Obj):Ext w (w.alloc y):=⟨⟨#[y],w.drawn⟩,by unfold lE World.alloc;rw[Array.append_singleton]⟩
section
variable(w:d2)(x:qb)
@[simp] def atA:(lE w x).heap.size=w.heap.size+x.ext.size:=by simp[lE]
@[simp] def atB:(lE w x).tape=w.tape:=rfl
def aaU{g:Nat}(h:g<w.heap.size):(lE w x).heap[g]?=w.heap[g]?:=by simp[lE,r_ h]
@[go_sem] def akc(l j:Nat)(q)(h:l<w.heap.size):(lE w x).cell? ⟨l,j,q⟩=w.cell? ⟨l,j,q⟩:=World.cell?_of_block (w:=w) (aaU w x h)
@[go_sem] def atr(l j:Nat)(q)(h:l<w.heap.size):(lE w x).frozen? ⟨l,j,q⟩=w.frozen? ⟨l,j,q⟩:=World.frozen?_of_block (w:=w) (aaU w x h)
@[go_sem] def atp:(lE w x).drew=lE w x.yZ:=rfl
@[go_sem] def atw:lE w.drew x=lE w x:=rfl
@[go_sem] theorem atz(l j:Nat)(q)(v:dp)(h:l<w.heap.size):(lE w x).setCell ⟨l,j,q⟩ v=lE (w.setCell ⟨l,j,q⟩ v) x:=by
 simp only[HW,lE];congr 1;apply v6;intro g;rw[HY];rcases la g w.heap.size with af|af
 .rw[r_ af,r_ cU,HY]
 .rw[HU af,HU cU,dA I];simp
@[go_sem] def atx(h:qb):lE (lE w x) h=lE w (x.and h):=by simp[lE,qb.and]
end
abbrev EH:=Tmp->d2->Prop
def EH.fo(b:EH)(dst:X Tmp)(z:d2->Prop):EH:=λa w=>match dst with
 |some i=>if a=i then z w else b a w
 |none=>b a w
variable{u:dw}{ops:Array dy}{a:Region.Mode}{N:d2->Prop}{i:Nat->X (dp->d2->Prop)}
def abv(ops:Array dy)(y:dy)(a:EH)(w:d2):Prop:=∀i∈y.looksAt ops,a i w
def aj9(v:dp)(w:d2)(r:Result Next):Prop:=r=.ok (.value v) w\/(r=.ok .skip w/\v=undef)
def MY(u:dw)(N:d2->Prop)(y:dy)(t:Act):X (dp->d2->Prop)->dp->d2->Prop
 |none,v,_=>∃a,N a/\aj9 v a ((execOp t.eval y).run u a)
 |some z,v,w=>z v w
def mUpon(u:dw)(post:dp->d2->Prop)(w:d2):Result Next->Prop
 |.ok (.value v) aE=>Ext w aE/\post v aE
 |.ok .skip aE=>Ext w aE/\post undef aE
 |.ok (.enter f args) aE=>Calls u f args aE λe a=>∃v,e=.returned v/\Ext w a/\post v a
 |_=>False
def mSafe(u:dw)(post:dp->d2->Prop)(y:dy)(t:Act)(w:d2):Prop:=mUpon u post w ((execOp t.eval y).run u w)
def mSafe.wp{post:dp->d2->Prop}{y:dy}{t:Act}{w:d2}{b:Act->d2->Prop}{d:fE->Act->d2->Prop}(h:mSafe u post y t w)
  (g:∀v aE,Ext w aE->post v aE->b (t.put y.dst v) aE):y.wp u t w b d:=by
 unfold mSafe at h;unfold ln;generalize(execOp t.eval y).run u w=r at*;cases r with
 |ok n aE=>
  cases n<;>simp only[mUpon]at h<;>simp only[ly]
  case value v=>exact g _ _ h.1 h.2
  case skip=>exact g _ _ h.1 h.2
  case enter f args=>exact h.mono λe k ⟨v,j,G,i⟩=>by subst j;exact g _ _ G i
 |halt a aE=>simp only[mUpon]at h
theorem mSafe.some{post:dp->d2->Prop}{y:dy}{t:Act}{w:d2}(h:mSafe u post y t w):∃v aE,Ext w aE/\post v aE:=by
 unfold mSafe at h;generalize(execOp t.eval y).run u w=r at*;cases r with
 |ok n aE=>
  cases n<;>simp only[mUpon]at h
  case value v=>exact ef
  case skip=>exact ef
  case enter f args=>have⟨e,d,fr,⟨v,_,G,b⟩,_⟩:=h [];exact ef
 |halt a aE=>simp only[mUpon]at h
def wpM(u:dw)(ops:Array dy)(N:d2->Prop)(i:Nat->X (dp->d2->Prop))(L:Act->(d2->Prop)->Prop):E dy->Nat->Act->EH->(d2->Prop)->Prop
 |[],_,t,_,a=>L t a
 |y::d,g,t,b,a=>
  if xF y (yielded ops t.tmps)then
   (∀w,N w->abv ops y b w->mSafe u (MY u N y t<|i g) y t w)/\
   ∀v,(∃w,N w/\a w/\MY u N y t (i g) v w)->wpM u ops N i L d (g+1) (t.put y.dst v) (b.fo y.dst λw=>MY u N y t (i g) v w/\abv ops y b w) (λw=>a w/\MY u N y t (i g) v w)
  else wpM u ops N i L d (g+1) (t.put y.dst undef) (b.fo y.dst λ_=>True) a
variable{L:Act->(d2->Prop)->Prop}
variable{y:dy}{s:E dy}{g:Nat}{t:Act}{a:d2->Prop}
variable{f:gk}{args:Array dp}{de:d2}{x:qb}{j:dp}{z:dp->d2->Prop}
attribute [go_sem] Ext mSafe mUpon
attribute [irreducible] wpM
end
section
inductive V where
 |cY (v:dp)
 |d_ (q tag n:Nat) (ae:List (List V))
 |e1 (a:List V)
 |box (i aq:Nat)
 |dk (i:Nat)
 |row (i n:Nat)
 |ip (i aq n:Nat)
 |sub (i q t n:Nat)
 |hn (i q j aq:Nat)
 |any
 |gQ (i:Nat)
 |hV (i j:Nat) (y:Option Nat)
 |gf (f:Nat) (a:List V)
inductive cT where
 |c (a:V)
 |agg (b:List V)
 |eu (d:List (Bool×List V))
abbrev ez:=Nat->Nat->X dp
def ez.gU(r a:ez):Prop:=∀l y v,r l y=B v->a l y=B v
def ez.gU.refl(r:ez):r.gU r:=λ_ _ _ h=>h
def ez.gU.trans{r b d:ez}(h:r.gU b)(g:b.gU d):r.gU d:=λl y v a=>g l y v (h l y v a)
inductive h2(rd:ez):dp->V->Prop
 |cY (v:dp):h2 rd v (.cY v)
 |nil (q:Nat) (t:Option mX) (c:Nat) (d:c<=maxLen):h2 rd (.slice t 0 c) (.d_ q 0 0 [])
 |d_ (l y n c q:Nat) (ae:List (List V)) (p:Nat->Nat->dp) (cR:F ae=n) (g:n<=c) (d:c<=maxLen) (aj:∀a∈ae,F a=q)
   (ay:∀j a m o,ae[j]?=B a->a[m]?=B o->rd l (y+j*q+m)=B (p j m))
   (aA:∀j a m o,ae[j]?=B a->a[m]?=B o->h2 rd (p j m) o):h2 rd (.slice (B ⟨l,y,M⟩) n c) (.d_ q 0 n ae)
 |e1 (l y:Nat) (b:List V) (p:Nat->dp) (ay:∀m o,b[m]?=B o->rd l (y+m)=B (p m))
   (aA:∀m o,b[m]?=B o->h2 rd (p m) o):h2 rd (.pointer<|B ⟨l,y,M⟩) (.e1 b)
 |xl (v:dp) (q n:Nat) (ae:List (List V)) (h:h2 rd v (.d_ q 0 n ae)) (i:v=.slice M 0 0\/∃t,v=.slice (B t) n n):h2 rd v (.d_ q 1 n ae)
theorem h2.mono{r k:ez}(h:r.gU k){v:dp}{a:V}(g:h2 r v a):h2 k v a:=by
 induction g with
 |cY v=>exact .cY v
 |nil q t c b=>exact .nil q t c b
 |d_ l y n c q ae p cR u b aj ay _ i=>exact .d_ l y n c q ae p cR u b aj (λj a m o d ad=>h _ _ _ cU) lB
 |e1 l y s p ay _ i=>exact .e1 l y s p (λm o ad=>h _ _ _ cU) lB
 |xl v q n ae _ x i=>exact .xl v q n ae i x
def hK(rd:ez)(q:Nat)(aF:E dp)(ae:E (E V)):Prop:=(∀a∈ae,F a=q)/\∀(j:Nat) (a:E V) (m:Nat) (o:V),ae[j]?=B a->a[m]?=B o->∃p,aF[j*q+m]?=B p/\h2 rd p o
def hK.mono{rd b:ez}(i:rd.gU b){q:Nat}{P:E dp}{ae:E (E V)}(h:hK rd q P ae):hK b q P ae:=⟨h.1,λj a m o d ad=>let⟨p,G,g⟩:=h.2 j a m o d ad;⟨p,G,g.mono i⟩⟩
structure dY where
 dn:Nat->Nat×Nat
 dM:Nat->dp×dp
def mc:dp->Nat
 |.slice _ n _=>n
 |_=>0
def eA(x:dY)(v:dp)(n:Nat):Nat->Prop
 |0=>True
 |1=>v=.slice M 0 0\/∃t,v=.slice (B t) n n
 |a+2=>n<=mc (x.dM a).2/\(n=mc (x.dM a).2->v=(x.dM a).2)
def Qu(z:dp)(j:Nat)(y:X Nat)(v:dp):Prop:=
 ∃P p,z=.agg P/\P[j]?=B p/\match y with
  |none=>v=p/\∃t n c,p=.slice t n c
  |some m=>∃l n c,p=.slice (B ⟨l,0,M⟩) n c/\v=.pointer (B ⟨l,m,M⟩)
theorem Qu.pq{z v:dp}{j:Nat}{y:X Nat}(h:Qu z j y v):(∃t n c,v=.slice t n c)\/∃t,v=.pointer t:=by
 have⟨P,p,_,_,h⟩:=h;cases y with
 |none=>obtain⟨rfl,h⟩:=h;exact .inl h
 |some m=>have⟨l,n,c,_,h⟩:=h;exact .inr cU
def ea(rd:ez)(x:dY)(v:dp):V->Prop
 |.hV i j y=>Qu (x.dM i).2 j y v
 |.box i aq=>v=.pointer (B ⟨(x.dn i).1,(x.dn i).2+aq,M⟩)
 |.dk i=>v=(x.dM i).1/\((∃t n c,(x.dM i).1=.slice t n c)\/∃r,(x.dM i).1=.map (B r))
 |.row i n=>∃t Q c,(x.dM i).1=.slice t Q c/\v=.slice t n c/\n<=Q
 |.sub i q t n=>∃l Q c a b,(x.dM i).1=.slice l Q c/\t+n<=Q/\v=.slice a n b/\n<=b/\b<=maxLen/\(n=0\/∃lf,l=B ⟨lf,0,M⟩/\a=B ⟨lf,t*q,M⟩)
 |.hn i q j aq=>∃l Q c,(x.dM i).1=.slice (B ⟨l,0,M⟩) Q c/\v=.pointer (B ⟨l,j*q+aq,M⟩)
 |.any=>True
 |.gQ i=>v=(x.dM i).1/\(v=.slice M 0 0\/∃t n,v=.slice (B t) n n)
 |.ip i aq n=>∃t c,v=.slice t n c/\n<=c/\c<=maxLen/\(n=0\/t=B ⟨(x.dn i).1,(x.dn i).2+aq,M⟩)
 |.d_ q tag n ae=>h2 rd v (.d_ q 0 n ae)/\eA x v n tag
 |.cY p=>h2 rd v<|.cY p
 |.e1 d=>h2 rd v<|.e1 d
 |.gf _ _=>False
def fA(rd:ez)(x:dY)(v:dp):V->Prop
 |.gf f b=>∃a:Array dp,v=.func (.func<|f%1000000) (a.extract 0<|f/1000000) (a.extract (f/1000000) a.size)/\a.size=F b/\∀(m:Nat) (o:V),b[m]?=B o->∃p,a[m]?=B p/\ea rd x p o
 |.box i aq=>ea rd x v<|.box i aq
 |.dk i=>ea rd x v<|.dk i
 |.row i n=>ea rd x v<|.row i n
 |.ip i aq n=>ea rd x v<|.ip i aq n
 |.sub i q t n=>ea rd x v<|.sub i q t n
 |.hn i q j aq=>ea rd x v<|.hn i q j aq
 |.any=>ea rd x v .any
 |.gQ i=>ea rd x v<|.gQ i
 |.hV i j y=>ea rd x v<|.hV i j y
 |.d_ q tag n ae=>ea rd x v<|.d_ q tag n ae
 |.cY p=>ea rd x v<|.cY p
 |.e1 b=>ea rd x v<|.e1 b
def ea.hG{rd:ez}{x:dY}{v:dp}{a:V}(h:ea rd x v a):fA rd x v a:=by
 cases a with
 |gf f b=>exact h.elim
 |_=>exact h
def fA.aky{rd:ez}{x:dY}{v:dp}{a:V}(d:∀f b,a≠.gf f b)(h:fA rd x v a):ea rd x v a:=by cases a<;>first|exact h|exact absurd rfl (d _ _)
def h2.c{rd:ez}{x:dY}{v:dp}{a:V}(h:h2 rd v a):fA rd x v a:=by
 cases h with
 |cY v=>exact .cY v
 |nil q t c b=>exact⟨.nil q t c b,trivial⟩
 |d_ l y n c q ae p cR g b aj ay aA=>exact⟨.d_ l y n c q ae p cR g b aj ay aA,trivial⟩
 |e1 l y d p ay aA=>exact .e1 l y d p ay aA
 |xl v q n ae h i=>exact⟨h,i⟩
def V.hZ(z:Nat->Bool):V->Bool
 |.box i _=>z i
 |.dk i=>z i
 |.row i _=>z i
 |.ip i _ _=>z i
 |.sub i _ _ _=>z i
 |.hn i _ _ _=>z i
 |.gQ i=>z i
 |.hV i _ _=>z i
 |.d_ _ tag _ _=>match tag with
  |a+2=>z a
  |_=>T
 |_=>T
def V.fn(z:Nat->Bool):V->Bool
 |.gf _ b=>b.all<|V.hZ z
 |a=>a.hZ z
def V.pn(f:Nat->Nat):V->V
 |.box i y=>.box (f i) y
 |.dk i=>.dk<|f i
 |.row i n=>.row (f i) n
 |.ip i y n=>.ip (f i) y n
 |.sub i q t n=>.sub (f i) q t n
 |.hn i q j y=>.hn (f i) q j y
 |.gQ i=>.gQ<|f i
 |.hV i j y=>.hV (f i) j y
 |.d_ q tag n ae=>match tag with
  |b+2=>.d_ q (f b+2) n ae
  |g=>.d_ q g n ae
 |a=>a
def V.fD(f:Nat->Nat):V->V
 |.gf g b=>.gf g<|b.map<|V.pn f
 |a=>a.pn f
def ea.fD{r k:ez}(ay:r.gU k){x ai:dY}(f:Nat->Nat)(z:Nat->Bool)(h:∀i,z i=T->ai.dn (f i)=x.dn i/\ai.dM (f i)=x.dM i){v:dp}{a:V}(d:a.hZ z=T)(g:ea r x v a):ea k ai v (a.pn f):=by
 cases a with
 |cY p=>exact g.mono ay
 |e1 l=>exact g.mono ay
 |box i aq=>simp only[V.hZ]at d;simp only[V.pn,ea,(h i d).1]at*;exact g
 |dk i=>simp only[V.hZ]at d;simp only[V.pn,ea,(h i d).2]at*;exact g
 |row i n=>simp only[V.hZ]at d;simp only[V.pn,ea,(h i d).2]at*;exact g
 |ip i aq n=>simp only[V.hZ]at d;simp only[V.pn,ea,(h i d).1]at*;exact g
 |sub i q t n=>simp only[V.hZ]at d;simp only[V.pn,ea,(h i d).2]at*;exact g
 |hn i q j aq=>simp only[V.hZ]at d;simp only[V.pn,ea,(h i d).2]at*;exact g
 |gQ i=>simp only[V.hZ]at d;simp only[V.pn,ea,(h i d).2]at*;exact g
 |hV i j y=>simp only[V.hZ]at d;simp only[V.pn,ea,(h i d).2]at*;exact g
 |any=>trivial
 |d_ q tag n ae=>
  rcases tag with _|_|m
  .exact⟨g.1.mono ay,trivial⟩
  .exact⟨g.1.mono ay,g.2⟩
  .simp only[V.hZ]at d;refine⟨g.1.mono ay,?_⟩;have b:=g.2;simp only[eA,(h m d).2]at b⊢;exact b
 |gf c l=>exact g.elim
def fA.fD{r s:ez}(ay:r.gU s){x ai:dY}(f:Nat->Nat)(z:Nat->Bool)(h:∀i,z i=T->ai.dn (f i)=x.dn i/\ai.dM (f i)=x.dM i){v:dp}{a:V}(d:a.fn z=T)(g:fA r x v a):fA s ai v (a.fD f):=by
 cases a with
 |gf c k=>have⟨A,G,b,C⟩:=g;refine⟨A,G,rz,λm o ad=>?_⟩;rw[gy]at ad;obtain⟨u,l,rfl⟩:=gG.1 ad;have⟨p,D,K⟩:=C m u l;exact⟨p,D,K.fD ay f z h<|fp.1 d u<|lp l⟩
 |cY p=>exact ea.hG<|ea.fD ay f z h (a:=.cY p) d g
 |e1 k=>exact ea.hG<|ea.fD ay f z h (a:=.e1 k) d g
 |box i aq=>exact ea.hG<|ea.fD ay f z h (a:=.box i aq) d g
 |dk i=>exact ea.hG<|ea.fD ay f z h (a:=.dk i) d g
 |row i n=>exact ea.hG<|ea.fD ay f z h (a:=.row i n) d g
 |ip i aq n=>exact ea.hG<|ea.fD ay f z h (a:=.ip i aq n) d g
 |sub i q t n=>exact ea.hG<|ea.fD ay f z h (a:=.sub i q t n) d g
 |hn i q j aq=>exact ea.hG<|ea.fD ay f z h (a:=.hn i q j aq) d g
 |gQ i=>exact ea.hG<|ea.fD ay f z h (a:=.gQ i) d g
 |hV i j y=>exact ea.hG<|ea.fD ay f z h (a:=.hV i j y) d g
 |any=>trivial
 |d_ q tag n ae=>exact ea.hG<|ea.fD ay f z h (a:=.d_ q tag n ae) d g
def aef(a:V):a.pn (λi=>i)=a:=by cases a<;>simp only[V.pn];rename_i q tag n ae;rcases tag with _|_|b<;>rfl
theorem arh(a:V):a.fD (λi=>i)=a:=by
 cases a with
 |gf c b=>simp only[V.fD];congr 1;exact(pw λo _=>aef o).trans cU
 |cY v=>rfl
 |d_ t l c i=>exact aef<|.d_ t l c i
 |e1 t=>rfl
 |box t l=>rfl
 |dk t=>rfl
 |row t l=>rfl
 |ip t l c=>rfl
 |sub t l c i=>rfl
 |hn t l c i=>rfl
 |any=>rfl
 |gQ t=>rfl
 |hV t l c=>rfl
def fA.sR{r b:ez}(ay:r.gU b){x ai:dY}(z:Nat->Bool)(h:∀i,z i=T->ai.dn i=x.dn i/\ai.dM i=x.dM i){v:dp}{a:V}(d:a.fn z=T)(g:fA r x v a):fA b ai v a:=by have:=g.fD ay (λi=>i) z h d;rwa[arh]at this
def V.r1(a:V):a.hZ (λ_=>T)=T:=by cases a<;>simp only[V.hZ];rename_i q tag n ae;rcases tag with _|_|b<;>rfl
def V.B9(a:V):a.fn (λ_=>T)=T:=by
 cases a with
 |gf f b=>exact fp.2 λo _=>V.r1 o
 |cY v=>exact V.r1<|.cY v
 |d_ t l c i=>exact V.r1<|.d_ t l c i
 |e1 t=>exact V.r1<|.e1 t
 |box t l=>exact V.r1<|.box t l
 |dk t=>exact V.r1<|.dk t
 |row t l=>exact V.r1<|.row t l
 |ip t l c=>exact V.r1<|.ip t l c
 |sub t l c i=>exact V.r1<|.sub t l c i
 |hn t l c i=>exact V.r1<|.hn t l c i
 |gQ t=>exact V.r1<|.gQ t
 |hV t l c=>exact V.r1<|.hV t l c
 |any=>rfl
theorem fA.mono{r b:ez}(h:r.gU b){x:dY}{v:dp}{a:V}(g:fA r x v a):fA b x v a:=g.sR h (λ_=>T) cU a.B9
def j3(rd:ez)(x:dY)(b:Array dp)(a:E V):Prop:=b.size=F a/\∀(m:Nat) (o:V),a[m]?=B o->∃p,b[m]?=B p/\fA rd x p o
def p9(rd:ez)(x:dY)(v:dp)(a:Bool×E V):Prop:=if a.1 then∃b,v=.agg b/\j3 rd x b a.2 else∃o,a.2=[o]/\fA rd x v o
def fM(rd:ez)(x:dY)(v:dp):cT->Prop
 |.c a=>fA rd x v a
 |.agg d=>∃b,v=.agg b/\j3 rd x b d
 |.eu ae=>∃b:Array dp,v=.tuple b/\b.size=F ae/\∀(m:Nat) (a:Bool×E V),ae[m]?=B a->∃p,b[m]?=B p/\p9 rd x p a
def cT.eY(z:V->Bool):cT->Bool
 |.c a=>z a
 |.agg b=>b.all z
 |.eu d=>d.all λa=>a.2.all z
def cT.map(A:V->V):cT->cT
 |.c a=>.c<|A a
 |.agg b=>.agg<|b.map A
 |.eu d=>.eu (d.map λa=>(a.1,a.2.map A))
def j3.imp{rd i:ez}{x ai:dY}{z:V->Bool}{A:V->V}(Y:∀v a,z a=T->fA rd x v a->fA i ai v (A a)){j:Array dp}{b:E V}(q:b.all z=T)(g:j3 rd x j b):j3 i ai j (b.map A):=by refine⟨by simpa using g.1,λm o ad=>?_⟩;rw[gy]at ad;obtain⟨k,d,rfl⟩:=gG.1 ad;have⟨p,G,l⟩:=g.2 m k d;exact⟨p,G,Y _ _ (fp.1 q k<|lp d) l⟩
def fM.imp{rd t:ez}{x ai:dY}{z:V->Bool}{A:V->V}(Y:∀v a,z a=T->fA rd x v a->fA t ai v (A a)){v:dp}{a:cT}(d:a.eY z=T)(h:fM rd x v a):fM t ai v (a.map A):=by
 cases a with
 |c a=>exact Y _ _ d h
 |agg D=>have⟨j,G,b⟩:=h;exact⟨j,G,b.imp Y d⟩
 |eu j=>
  have⟨P,G,b,y⟩:=h;refine⟨P,G,rz,λm a aw=>?_⟩;rw[gy]at aw;obtain⟨u,s,rfl⟩:=gG.1 aw;have⟨p,C,g⟩:=y m u s;refine⟨p,C,?_⟩;have q:=fp.1 d u<|lp s;unfold p9 at*;simp only;split
  next l=>rw[dE l]at g;have⟨j,i,k⟩:=g;exact⟨j,i,k.imp Y q⟩
  next l=>rw[dA l]at g;have⟨o,i,k⟩:=g;rw[i]at q;exact⟨A o,by simp[i],Y _ _ (by simpa using q) k⟩
def cT.map_id(a:cT):a.map (λo=>o)=a:=by cases a<;>simp[cT.map]
def fM.t5{rd b:ez}{x ai:dY}{z:V->Bool}(Y:∀v a,z a=T->fA rd x v a->fA b ai v a){v:dp}{a:cT}(d:a.eY z=T)(h:fM rd x v a):fM b ai v a:=by have:=h.imp (A:=λo=>o) Y d;rwa[cT.map_id]at this
def j3.t5{rd d:ez}{x ai:dY}{z:V->Bool}(Y:∀v a,z a=T->fA rd x v a->fA d ai v a){i:Array dp}{b:E V}(j:b.all z=T)(g:j3 rd x i b):j3 d ai i b:=by have:=g.imp (A:=λo=>o) Y j;rwa[Cp]at this
def cT.qW(a:cT):a.eY (λ_=>T)=T:=by cases a<;>simp[cT.eY]
def fM.mono{r b:ez}(h:r.gU b){x:dY}{v:dp}{a:cT}(g:fM r x v a):fM b x v a:=g.t5 (z:=λ_=>T) (λ_ _ _ g=>g.mono h) a.qW
def j3.mono{r b:ez}(h:r.gU b){x:dY}{d:Array dp}{a:E V}(g:j3 r x d a):j3 b x d a:=g.t5 (z:=λ_=>T) (λ_ _ _ g=>g.mono h) dh
structure OJ where
 F3:dp×dp->Nat->Prop
 gg:ez->d2->dp×dp->Prop
 mono:∀{rd a:ez} {w:d2} {z:dp×dp},rd.gU a->gg rd w z->gg a w z
 lt:∀{rd:ez} {w:d2} {z:dp×dp} {l:Nat},gg rd w z->F3 z l->l<w.heap.size
 gJ:∀{rd:ez} {w aE:d2} {z:dp×dp},(∀l,F3 z l->aE.heap[l]?=w.heap[l]?)->gg rd w z->gg rd aE z
inductive eD where
 |box (a:List V)
 |row (e q n:Nat) (ae:List (List V))
 |fw (e q n:Nat)
 |dR (L:List (dp×dp))
 |g7 (ak:OJ)
def eD.map(A:V->V):eD->eD
 |.box a=>.box<|a.map A
 |r=>r
def eD.eY(z:V->Bool):eD->Bool
 |.box a=>a.all z
 |_=>T
def eD.kr:eD->Bool
 |.box _=>T
 |_=>Z
abbrev fK:=E (Nat×eD)
structure cP where
 tmps:E (Nat×cT)
 Y:fK
def cO{ag:Type}:E (Nat×ag)->Nat->X ag
 |[],_=>M
 |(g,a)::s,n=>if g=n then B a else cO s n
def pS{ag:Type}(s:E (Nat×ag))(n:Nat):E (Nat×ag):=s.filter λz=>z.1 !=n
def t6{ag:Type}(n:Nat):∀(s:E (Nat×ag)) (A:Nat),cO (pS s n) A=if A=n then M else cO s A
 |[],A=>by simp[pS,cO]
 |(g,a)::s,A=>by
  have d:=t6 n s A;unfold pS at*;simp only[v7];by_cases af:g=n
  .subst af;simp only[bne_self_eq_false,j0,if_false,d,cO];by_cases b:A=g
   .simp[b]
   .rw[dA b,dA b,dA dd]
  .simp only[bne_iff_ne,ne_eq,af,not_false_eq_true,if_true,cO,d];by_cases b:g=A
   .subst b;simp[af]
   .simp[b]
def io{ag:Type}(n:Nat)(a:ag)(s:E (Nat×ag))(A:Nat):cO ((n,a)::s) A=if n=A then B a else cO s A:=rfl
theorem iM{ag:Type}{s:E (Nat×ag)}{b:Nat}{a:ag}(h:cO s b=B a):(b,a)∈s:=by
 induction s with
 |nil=>simp[cO]at h
 |cons z s d=>
  have⟨g,o⟩:=z;rw[io]at h;split at h
  next af=>subst af;cases h;simp
  .exact HM _ cU
def sT{ag D:Type}(f:ag->D):∀(s:E (Nat×ag)) (A:Nat),cO (s.map λz=>(z.1,f z.2)) A=(cO s A).map f
 |[],A=>rfl
 |(g,a)::s,A=>by
  simp only[hx,io];split
  .rfl
  .exact sT f s A
def hB{ag:Type}(n:Nat)(a:ag):E (Nat×ag)->E (Nat×ag)
 |[]=>[(n,a)]
 |(g,o)::s=>if g=n then(n,a)::s else(g,o)::hB n a s
def kZ{ag:Type}(n:Nat)(a:ag):∀(s:E (Nat×ag)) (A:Nat),cO (hB n a s) A=if n=A then B a else cO s A
 |[],A=>rfl
 |(g,o)::s,A=>by
  simp only[hB];split
  next af=>subst af;simp only[io];split<;>rfl
  .rename_i af;simp only[io,kZ n a s A];by_cases G:g=A
   .subst G;rw[dE rfl,dE rfl,dA dd]
   .rw[dA G,dA G]
def cP.put(q:cP)(i:X Tmp)(v:cT):cP:=match i with
 |some i=>{q with tmps:=hB i v q.tmps}
 |none=>q
def cP.f3(q:cP)(i:Nat)(r:eD):cP:={q with Y:=hB i r q.Y}
def cP.lj(q:cP)(i:Nat):X (E V):=match cO q.Y i with
 |some (.box a)=>B a
 |_=>M
def za{q:cP}{i:Nat}{a:E V}(h:q.lj i=B a):cO q.Y i=B (.box a):=by
 unfold cP.lj at h;split at h
 next b cN=>cases h;exact cN
 .cases h
def afa(a:Nat×Nat)(n:Nat):Prop:=∀m,m<n->¬(a.1<=m/\m<a.2)
def _root_.Go.World.s5(w:d2)(e:f1)(a:Nat)(v:dp)(n:Nat)(ae:E dp):Prop:=
 F ae=n*a/\
 ((v=.slice M 0 0/\n=0)\/
  ∃x aV ao b,v=.slice (B ⟨x,0,M⟩) n aV/\w.heap[x]?=B (.cells ao e b)/\afa b ao.size/\n<=aV/\aV<=maxLen/\ao.size=aV*a/\ao.toList.take (n*a)=ae)
def _root_.Go.World.ownsRow.m{w:d2}{e:f1}{q n:Nat}{v:dp}{ae:E dp}(h:w.ownsRow 0 e q v n ae):w.s5 e q v n ae:=by
 refine⟨h.1,?_⟩;rcases h.2 with cR|⟨x,aV,ao,ab,b,ar,a⟩
 .exact .inl cR
 .exact .inr ⟨x,aV,ao,(0,0),ab,ar,λm _ C=>VD _ C.2,a⟩
def _root_.Go.World.s5.lt{w:d2}{e:f1}{q n:Nat}{v:dp}{ae:E dp}(h:w.s5 e q v n ae)(g:Nat)(af:v.ownBlock=B g):g<w.heap.size:=by
 rcases h.2 with⟨rfl,_⟩|⟨x,aV,ao,a,rfl,ar,_⟩
 .simp[n6]at af
 .simp[n6]at af;subst af;exact(l4.1 ar).1
theorem _root_.Go.World.s5.cells{w:d2}{e:f1}{q n:Nat}{v:dp}{ae:E dp}(h:w.s5 e q v n ae){x:Nat}(ar:v.ownBlock=B x):∀m p,ae[m]?=B p->w.cell? ((⟨x,0,M⟩:mX).add m)=B p:=by
 intro m p aA;rcases h.2 with⟨rfl,_⟩|⟨ai,aV,ao,a,rfl,d,_,_,_,_,g⟩
 .simp[n6]at ar
 .simp[n6]at ar;subst ar;have b:(⟨ai,0,M⟩:mX).add m=⟨ai,m,M⟩:=ahh;rw[b,cell_of_row w ai m ao e a d];rw[<-g,jd]at aA;split at aA
  .simpa using aA
  .cases aA
def WV(a:Array MapEntry)(L:E (dp×dp)):Prop:=(a.toList.map λe=>(e.key,e.val))=L
def er(x:dY)(i:Nat):eD->Nat->Nat->Prop
 |.box a,l,y=>l=(x.dn i).1/\(x.dn i).2<=y/\y<(x.dn i).2+F a
 |.row _ _ _ _,l,_=>(x.dM i).1.ownBlock=B l
 |.fw _ q n,l,y=>(x.dM i).2.ownBlock=B l/\n*q<=y
 |.dR _,l,_=>(x.dM i).1=.map (B l)
 |.g7 ak,l,_=>ak.F3 (x.dM i) l
def h7(x:dY)(h:fK)(l y:Nat):Prop:=∃i r,cO h i=B r/\er x i r l y
def ZF(rd:ez)(x:dY)(w:d2)(z:Nat×Nat)(a:E V):Prop:=∀(m:Nat) (o:V),a[m]?=B o->∃p,w.cell? ⟨z.1,z.2+m,M⟩=B p/\w.frozen? ⟨z.1,z.2+m,M⟩=Z/\fA rd x p o
def iv(rd:ez)(x:dY)(w:d2)(i:Nat):eD->Prop
 |.box b=>ZF rd x w (x.dn i) b
 |.row e q n ae=>∃P,w.ownsRow 0 e q (x.dM i).1 n P/\F ae=n/\hK rd q P ae
 |.fw e q n=>∃P,w.s5 e q (x.dM i).2 n P
 |.dR L=>∃r a c,(x.dM i).1=.map (B r)/\w.heap[r]?=B (.map a c)/\WV a L
 |.g7 ak=>ak.gg rd w<|x.dM i
def pg(x:dY)(i:Nat)(A:V->V)(r:eD):er x i (r.map A)=er x i r:=by funext l y;cases r<;>simp[er,eD.map]
def qZ{x ai:dY}{i:Nat}(h:ai.dn i=x.dn i/\ai.dM i=x.dM i)(r:eD):er ai i r=er x i r:=by funext l y;cases r<;>simp only[er,h.1,h.2]
def iv.lt{rd:ez}{x:dY}{w:d2}{i:Nat}{r:eD}(h:iv rd x w i r){l y:Nat}(a:er x i r l y):l<w.heap.size:=by
 cases r with
 |box d=>obtain⟨rfl,b,k⟩:=a;have aX:y-(x.dn i).2<F d:=I;have⟨p,g,_⟩:=h _ _ (e6 aX);exact rk w _ g
 |row e q n ae=>have⟨P,G,_⟩:=h;exact(G.lt l a).2
 |fw e q n=>have⟨P,G⟩:=h;exact G.lt l a.1
 |dR L=>have⟨r,j,c,G,b,_⟩:=h;simp only[er]at a;rw[G]at a;cases a;exact(l4.1 b).1
 |g7 ak=>exact ak.lt h a
def Cv(A:Nat->Prop)(y b:X Obj):Prop:=
 b=y\/(∃c a e f,y=B (.cells c e f)/\b=B (.cells a e f)/\a.size=c.size/\∀m,¬A m->a[m]?=c[m]?)\/
 (A 0/\∃d g i j,y=B (.map d g)/\b=B (.map i j))
structure fL(a:d2)(b:Nat->Nat->Prop)(w:d2):Prop where
 os:w.os=a.os
 tape:w.tape=a.tape
 output:w.output=a.output
 size:a.heap.size<=w.heap.size
 block:∀l,l<a.heap.size->Cv (b l) a.heap[l]? w.heap[l]?
theorem Cv.trans{A d:Nat->Prop}{j k l:X Obj}(h:Cv A j k)(g:Cv d k l)(N:∀m,d m->A m):Cv A j l:=by
 rcases h with rfl|⟨c,p,e,f,rfl,rfl,u,x⟩|⟨dI,a,C,b,o,rfl,rfl⟩
 .rcases g with rfl|⟨c,p,e,f,rfl,rfl,u,x⟩|⟨dI,a,C,b,o,rfl,rfl⟩
  .exact .inl rfl
  .exact .inr ef
  .exact .inr cU
 .rcases g with rfl|⟨i,q,s,t,G,rfl,y,z⟩|⟨_,a,C,b,o,G,_⟩
  .exact .inr ef
  .cases G;exact .inr ef
  .cases G
 .rcases g with rfl|⟨i,q,s,t,G,rfl,y,z⟩|⟨_,D,au,K,aL,_,rfl⟩
  .exact .inr cU
  .cases G
  .exact .inr cU
def fL.refl(w:d2)(a:Nat->Nat->Prop):fL w a w:=⟨rfl,rfl,rfl,jq _,λ_ _=>.inl rfl⟩
def fL.trans{i w aE:d2}{d a:Nat->Nat->Prop}(h:fL i d w)(g:fL w a aE)(j:∀l y,l<i.heap.size->a l y->d l y):fL i d aE:=⟨g.os.trans h.os,g.tape.trans h.tape,g.output.trans h.output,mY h.size g.size,λl b=>(h.block l b).trans (g.block l<|Ct b h.size) λm=>j l m b⟩
theorem fL.kN{w aE:d2}{b a:Nat->Nat->Prop}(h:fL w b aE)(d:∀l y,b l y->a l y):fL w a aE:=(fL.refl w a).trans h cU
def fL.rS{w aE:d2}(h:Ext w aE):fL w (λ_ _=>False) aE:=by have a:=h.RF;exact⟨a.os,a.tape,a.output,a.size,λl b=>.inl<|a.block l b⟩
def fL.ext{w aE:d2}(h:fL w (λ_ _=>False) aE):Ext w aE:=by
 refine Ext.am4 ⟨h.os,h.tape,h.output,h.size,λl d=>?_⟩;rcases h.block l d with e|⟨c,g,e,f,G,a,i,b⟩|⟨dI,_⟩
 .exact e
 .rw[G,a];congr 2;exact v6 λm=>b m dh
 .exact dI.elim
def fL.aaq{w aE:d2}{d:Nat->Nat->Prop}(h:fL w d aE){l y:Nat}(b:l<w.heap.size):aE.frozen? ⟨l,y,M⟩=w.frozen? ⟨l,y,M⟩:=by
 unfold sg;simp only;rcases h.block l b with e|⟨c,g,e,f,G,a,k,m⟩|⟨_,i,C,j,o,G,a⟩
 .rw[e]
 .rw[G,a]
 .rw[G,a]
def fL.alloc(w:d2)(y:Obj)(b:Nat->Nat->Prop):fL w b (w.alloc y):=⟨rfl,rfl,rfl,dh,λl a=>.inl<|heap_alloc_old w y a⟩
def fL.setCell(w:d2)(l y:Nat)(v:dp):fL w (λb i=>b=l/\i=y) (w.setCell ⟨l,y,M⟩ v):=by
 refine⟨rfl,rfl,rfl,by simp[HW],λb j=>?_⟩;by_cases g:b=l
 .subst g;simp only[HW,HY,if_true];cases d:w.heap[b]? with
  |none=>exact .inl dh
  |some a=>
   cases a with
   |cells c e f=>exact .inr (.inl ⟨c,c.setIfInBounds y v,e,f,rfl,dh,dh,λm aw=>by simp at aw;simp[l5 aw]⟩)
   |_=>exact .inl dh
 .refine .inl ?_;simp only[HW,HY];rw[dA (l5 g)]
theorem fL.setCells(l:Nat):∀(d:E dp) (y:Nat) (w:d2),fL w (λb a=>b=l/\y<=a/\a<y+F d) (w.setCells l y d)
 |[],_,w=>fL.refl _ _
 |v::r,y,w=>by
  have G:=fL.setCell w l y v;have i:=fL.setCells l r (y+1)<|w.setCell ⟨l,y,M⟩ v;have g:fL w (λb a=>b=l/\y<=a/\a<y+F (v::r)) (w.setCell ⟨l,y,M⟩ v):=G.kN cU
  exact g.trans i ef
def fL.cell{w aE:d2}{d:Nat->Nat->Prop}(h:fL w d aE){l y:Nat}{v:dp}(a:w.cell? ⟨l,y,M⟩=B v)(i:¬d l y):aE.cell? ⟨l,y,M⟩=B v:=by
 have aX:=rk w _ a;unfold HT at a⊢;simp only at a aX⊢;rcases h.block l aX with e|⟨c,j,e,f,G,b,o,g⟩|⟨_,k,C,m,p,G,b⟩
 rotate_left 2
 .rw[G]at a;simp at a
 .rw[e];exact a
 .rw[G]at a;rw[b];simp only[tu,j0,if_false]at a⊢;rwa[g y i]
theorem fL.c_{w aE:d2}{a:Nat->Nat->Prop}(h:fL w a aE){l:Nat}(d:l<w.heap.size)(k:∀y,¬a l y):aE.heap[l]?=w.heap[l]?:=by
 rcases h.block l d with e|⟨c,g,e,f,G,b,i,j⟩|⟨dI,_⟩
 .exact e
 .rw[G,b];congr 2;exact v6 cU
 .exact absurd dI cU
structure fb where
 r6:d2
 may:Nat->Nat->Prop
 TP:ez
 TJ:Nat->Nat×Nat
 Bv:Nat->X dp
 ok:∀l y v,TP l y=B v->r6.cell? ⟨l,y,M⟩=B v/\¬may l y
open Classical in
def fd(K:fb)(x:dY)(h:fK)(w:d2):ez:=λl y=>if h7 x h l y then M else if l<K.r6.heap.size/\¬K.may l y then K.TP l y else w.cell? ⟨l,y,M⟩
structure nQ(K:fb)(x:dY)(w:d2)(h:fK):Prop where
 gJ:fL K.r6 K.may w
 gg:∀i r,cO h i=B r->iv (fd K x h w) x w i r
 may:∀l y,h7 x h l y->l<K.r6.heap.size->K.may l y
 lR:∀i a r b l y,i≠a->cO h i=B r->cO h a=B b->er x i r l y->¬er x a b l y
 rL:∀i d,1000000<=i->cO h i=B (.box d)->x.dn i=K.TJ i
 iA:∀i r,cO h i=B r->r.kr=Z->∀l y,er x i r l y->K.r6.heap.size<=l\/K.may l y
def p3(K:fb)(t:Act)(a:Nat):X dp:=if a<2000000 then t.tmps[a]? else K.Bv (a-2000000)
structure gW(K:fb)(x:dY)(n:Nat)(t:Act)(w:d2)(q:cP):Prop where
 defers:t.defers=[]
 size:t.tmps.size=n
 oo:n<=2000000
 eV:nQ K x w q.Y
 tmps:∀a v,cO q.tmps a=B v->∃p,p3 K t a=B p/\fM (fd K x q.Y w) x p v
def R(K:fb)(n:Nat)(t:Act)(w:d2)(q:cP):Prop:=∃x,gW K x n t w q
def G9{K:fb}(x:dY)(h:fK){w:d2}(af:fL K.r6 K.may w):∀l y v,fd K x h w l y=B v->w.cell? ⟨l,y,M⟩=B v:=by
 intro l y v ab;unfold fd at ab;split at ab
 .cases ab
 .split at ab
  .exact af.cell (K.ok l y v ab).1 (K.ok l y v ab).2
  .exact ab
def TQ{K:fb}{x:dY}{h:fK}{w:d2}{l y:Nat}(a:h7 x h l y):fd K x h w l y=M:=by unfold fd;rw[dE a]
variable{K:fb}{x ai:dY}{w aE:d2}{h aF:fK}
def ui(g:nQ K x w h)(a:Nat->Bool)(q:∀i r,a i=Z->cO h i=B r->ai.dn i=x.dn i/\ai.dM i=x.dM i)
  (cN:∀i o,a i=Z->cO aF i=B o->∃r A,cO h i=B r/\o=r.map A)
  (af:fL w (λl y=>∃i r,a i=T/\cO h i=B r/\er x i r l y) aE)
  (s:∀i r l y,a i=T->cO aF i=B r->er ai i r l y->(∃e eM,a e=T/\cO h e=B eM/\er x e eM l y)\/w.heap.size<=l):(fd K x h w).gU (fd K ai aF aE):=by
 intro l y v ab;have m:=G9 x h g.gJ l y v ab;have aX:=rk w _ m;unfold fd at ab⊢;split at ab
 .cases ab
 .rename_i d;rw[dA]
  .split at ab
   next k=>rw[dE k];exact ab
   next k=>rw[dA k];exact af.cell m λ⟨i,r,_,G,b⟩=>d ⟨i,r,G,b⟩
  .rintro⟨i,r,G,b⟩;cases ax:a i with
   |true=>
    rcases s i r l y ax G b with⟨e,eM,_,j,p⟩|j
    .exact d ⟨e,eM,j,p⟩
    .simp only at aX;omega
   |false=>obtain⟨eM,A,j,rfl⟩:=cN i r ax G;rw[pg,qZ (q i eM ax j)]at b;exact d ⟨i,eM,j,b⟩
theorem nQ.step(g:nQ K x w h)(j:Nat->Bool)(A:V->V)(ok:V->Bool)(Q:∀i r,j i=Z->cO h i=B r->ai.dn i=x.dn i/\ai.dM i=x.dM i)
  (cN:∀i b,j i=Z->cO aF i=B b->∃r,cO h i=B r/\b=r.map A/\r.eY ok=T)
  (af:fL w (λl y=>∃i r,j i=T/\cO h i=B r/\er x i r l y) aE)
  (am:∀i r l y,j i=T->cO aF i=B r->er ai i r l y->(∃e eM,j e=T/\cO h e=B eM/\er x e eM l y)\/w.heap.size<=l)
  (al:∀i k r b l y,j i=T->j k=T->i≠k->cO aF i=B r->cO aF k=B b->er ai i r l y->¬er ai k b l y)
  (aX:∀p a,ok a=T->fA (fd K x h w) x p a->fA (fd K ai aF aE) ai p (A a))
  (aS:∀i r,j i=T->cO aF i=B r->iv (fd K ai aF aE) ai aE i r)
  (aQ:∀i aj,j i=T->1000000<=i->cO aF i=B (.box aj)->ai.dn i=K.TJ i)
  (aY:∀i r,j i=T->cO aF i=B r->r.kr=Z->∀l y,er ai i r l y->K.r6.heap.size<=l\/K.may l y):nQ K ai aE aF:=by
 have aU:∀i b,j i=Z->cO aF i=B b->∃r A,cO h i=B r/\b=r.map A:=λi b G t=>let⟨r,d,s,_⟩:=cN i b G t;ef
 have aG:=ui (aF:=aF) g j Q aU af am;have ah:∀i r l y,j i=Z->cO h i=B r->er x i r l y->¬∃e b,j e=T/\cO h e=B b/\er x e b l y:=by rintro i r l y ax G t ⟨e,b,d,s,u⟩;exact g.lR i e r b l y ef G s t u
 refine⟨g.gJ.trans af λl y z ⟨i,r,_,G,t⟩=>g.may l y ⟨i,r,G,t⟩ z,λi b aA=>?_,?_,?_,?_,?_⟩
 .cases ax:j i with
  |true=>exact aS i b ax aA
  |false=>
   obtain⟨r,G,rfl,t⟩:=cN i b ax aA;have ag:=Q i r ax G;have aK:=g.gg i r G;cases r with
   |box aj=>intro m o ad;rw[gy]at ad;obtain⟨ar,ap,rfl⟩:=gG.1 ad;have⟨p,aI,aM,aZ⟩:=aK m ar ap;have aw:=(ie.1 ap).1;rw[ag.1];refine⟨p,af.cell aI<|ah i _ _ _ ax G ⟨rfl,I,I⟩,ahk,aX p ar (fp.1 t ar<|lp ap) aZ⟩
   |row e q n ae=>
    have⟨P,d,s,aP⟩:=aK;refine⟨P,?_,s,aP.mono aG⟩;rw[ag.2];refine⟨d.1,?_⟩;rcases d.2 with cR|⟨aW,aV,ao,ab,z,S,a1⟩
    .exact .inl cR
    .refine .inr ⟨aW,aV,ao,ab,z,?_,a1⟩;rw[af.c_ (l4.1 S).1 (λy=>ah i _ aW y ax G (by simp only[er];rw[ab];rfl))];exact S
   |fw e q n=>
    have⟨P,d⟩:=aK;simp only[eD.map,iv,ag.2];rcases d.2 with⟨cR,dI⟩|⟨aW,aV,ao,aO,ab,S,aH,aa,aJ,aq,a0⟩
    .exact⟨P,d.1,.inl ⟨cR,dI⟩⟩
    .rcases af.block aW (l4.1 S).1 with ay|⟨c,av,ay,f,aC,au,aL,aT⟩|⟨_,az,C,a2,a3,aC,_⟩
     rotate_left 2
     .rw[S]at aC;cases aC
     .exact⟨P,d.1,.inr ⟨aW,aV,ao,aO,ab,by rw[ay];exact S,aH,aa,aJ,aq,a0⟩⟩
     .rw[S]at aC;cases aC;refine⟨av.toList.take<|n*q,?_,.inr ⟨aW,aV,av,_,ab,au,by rw[aL];exact aH,aa,aJ,by rw[aL];exact aq,rfl⟩⟩;rw[hO,pz,aL,aq,jw (j1 _ aa)]
   |dR L=>have⟨r,az,c,d,s,u⟩:=aK;refine⟨r,az,c,by rw[ag.2];exact d,?_,u⟩;rw[af.c_ (l4.1 s).1 (λy=>ah i _ r y ax G d)];exact s
   |g7 ak=>simp only[eD.map,iv,ag.2];exact ak.gJ (λl z=>af.c_ (ak.lt aK z) λy=>ah i _ l y ax G z)<|ak.mono aG aK
 .rintro l y ⟨i,r,G,t⟩ z;cases ax:j i with
  |true=>
   rcases am i r l y ax G t with⟨e,eM,_,d,s⟩|d
   .exact g.may l y ⟨e,eM,d,s⟩ z
   .have:=g.gJ.size;omega
  |false=>obtain⟨eM,d,rfl,_⟩:=cN i r ax G;rw[pg,qZ (Q i eM ax d)]at t;exact g.may l y ⟨i,eM,d,t⟩ z
 .intro i k r b l y aR G t d s;have bj:∀i k r b,j i=T->j k=Z->cO aF i=B r->cO aF k=B b->er ai i r l y->¬er ai k b l y:=by
   intro i k r b ax N G t d s;obtain⟨eM,u,rfl,_⟩:=cN k b N t;rw[pg,qZ (Q k eM N u)]at s;rcases am i r l y ax G d with D|D
   .exact ah k eM l y N u s D
   .have:=(g.gg k eM u).lt s;omega
  cases ax:j i with
  |true=>
   cases N:j k with
   |true=>exact al i k r b l y ax N aR G t d s
   |false=>exact bj i k r b ax N G t d s
  |false=>
   cases N:j k with
   |true=>exact bj k i b r N ax t G s d
   |false=>obtain⟨eM,u,rfl,_⟩:=cN i r ax G;obtain⟨aa,D,rfl,_⟩:=cN k b N t;rw[pg,qZ (Q i eM ax u)]at d;rw[pg,qZ (Q k aa N D)]at s;exact g.lR i k eM aa l y aR u D d s
 .intro i aj aB aD;cases ax:j i with
  |true=>exact aQ i aj ax aB aD
  |false=>
   have⟨eM,u,D,_⟩:=cN i _ ax aD;cases eM with
   |box aN=>rw[(Q i _ ax u).1];exact g.rL i aN aB u
   |row e q n ae=>cases D
   |fw e q n=>cases D
   |dR L=>cases D
   |g7 ak=>cases D
 .intro i r al z l y an;cases ax:j i with
  |true=>exact aY i r ax al z l y an
  |false=>obtain⟨eM,u,rfl,_⟩:=cN i r ax al;rw[pg,qZ (Q i eM ax u)]at an;exact g.iA i eM u (by cases eM<;>simp_all[eD.kr,eD.map]) l y an
def yF(w:d2)(a:Nat->Nat->Prop)(rd:ez)(aE:d2)(gQ:Nat->Nat->Prop):Prop:=∀l y p,(w.heap.size<=l\/a l y)->¬gQ l y->aE.cell? ⟨l,y,M⟩=B p->rd l y=B p
def XR(w:d2)(rd:ez)(aE:d2):Prop:=∀l y p,w.heap.size<=l->aE.cell? ⟨l,y,M⟩=B p->rd l y=B p
theorem TR(g:nQ K x w h){b:Nat->Nat->Prop}(k:∀l y,b l y->l<K.r6.heap.size->K.may l y):yF w b (fd K ai aF aE) aE (h7 ai aF):=by
 intro l y p a d j;unfold fd;rw[dA d,dA]
 .exact j
 .rintro⟨G,i⟩;rcases a with a|a
  .have:=g.gJ.size;omega
  .exact i cU
end
structure wS(x:dY)(rd:ez)(t:Act)(w:d2)(q:cP):Prop where
 tmps:∀a v,a<2000000->cO q.tmps a=B v->∃p,t.tmps[a]?=B p/\fM rd x p v
 oy:∀l y v,rd l y=B v->w.cell? ⟨l,y,M⟩=B v
 gg:∀i r,cO q.Y i=B r->iv rd x w i r
def gW.kM{K:fb}{x:dY}{n:Nat}{t:Act}{w:d2}{q:cP}(h:gW K x n t w q):wS x (fd K x q.Y w) t w q:=⟨λb v ax ab=>let⟨p,G,a⟩:=h.tmps b v ab;⟨p,by rw[p3,dE ax]at G;exact G,a⟩,G9 _ _ h.eV.gJ,h.eV.gg⟩
def RY:dp->X cT
 |.agg a=>B<|.agg<|a.toList.map V.cY
 |.tuple _=>M
 |v=>B<|.c<|.cY v
def dZ(q:cP):hp->X cT
 |.tmp a=>if a<2000000 then cO q.tmps a else M
 |.const v=>RY v
 |.func f=>B<|.c<|.cY<|.func (.func f) #[] #[]
 |.global _=>M
def akq{rd:ez}{x:dY}{v:dp}{a:cT}(h:RY v=B a):fM rd x v a:=by
 unfold RY at h;split at h
 .cases h;refine⟨_,rfl,dh,λm o ad=>?_⟩;rw[gy]at ad;obtain⟨p,aA,rfl⟩:=gG.1 ad;exact⟨p,Ll,.cY p⟩
 .cases h
 .cases h;exact h2.cY _
def wS.dZ{x:dY}{rd:ez}{t:Act}{w:d2}{q:cP}(h:wS x rd t w q){a:hp}{v:cT}(d:dZ q a=B v):fM rd x (t.eval a) v:=by
 cases a with
 |tmp g=>simp only[Go.Proofs.YtddmdeaegbfhaaaGreat.dZ]at d;split at d;rotate_left;cases d;rename_i ax;have⟨p,G,b⟩:=h.tmps g v ax d;simp only[Act.eval,oH,G,n7];exact b
 |const v=>exact akq d
 |func f=>simp only[Go.Proofs.YtddmdeaegbfhaaaGreat.dZ]at d;cases d;exact .cY _
 |global x=>simp[Go.Proofs.YtddmdeaegbfhaaaGreat.dZ]at d
structure lJ(x:dY)(rd:ez)(t:Act)(w:d2)(q:cP)(y:dy):Prop where
 op:∀a v,a∈y.op.operands.toList->dZ q a=B v->fM rd x (t.eval a) v
 oy:∀l y v,rd l y=B v->w.cell? ⟨l,y,M⟩=B v
 gg:∀i r,cO q.Y i=B r->iv rd x w i r
def wS.o{x:dY}{rd:ez}{t:Act}{w:d2}{q:cP}(h:wS x rd t w q)(y:dy):lJ x rd t w q y:=⟨λ_ _ _ d=>h.dZ d,h.oy,h.gg⟩
def lJ.box{x:dY}{rd:ez}{t:Act}{w:d2}{q:cP}{y:dy}(h:lJ x rd t w q y)(i:Nat)(a:E V)(cN:q.lj i=B a)(m:Nat)(o:V)(ad:a[m]?=B o):∃p,w.cell? ⟨(x.dn i).1,(x.dn i).2+m,M⟩=B p/\fA rd x p o:=let⟨p,G,_,b⟩:=h.gg i _ (za cN) m o ad;⟨p,G,b⟩
def iH(u:dw)(y:dy)(q:cP)(v:cT):Prop:=∀x rd t w,lJ x rd t w q y->∃p,(execOp t.eval y).run u w=.ok (.value p) w/\fM rd x p v
def iS(l y n:Nat):(⟨l,y,M⟩:mX).add n=⟨l,y+n,M⟩:=by
 unfold Addr.add;split
 next h=>subst h;rfl
 .rfl
def int(g:g0)(n:Int):cT:=.c (.cY (.int g n))
def bool(l:Bool):cT:=.c (.cY (.bool l))
def hw{rd:ez}{x:dY}{p v:dp}(h:fM rd x p (.c (.cY v))):p=v:=by simp only[fM,fA,ea]at h;cases h;rfl
def q3(rd:ez)(x:dY)(v:dp):fM rd x v (.c (.cY v)):=h2.cY v
def adX{u:dw}{y:dy}{q:cP}{v:cT}{a:hp}(cK:y.op=.move a\/y.op=.assign a)(d:dZ q a=B v):iH u y q v:=by intro x rd t w ab;rcases cK with cK|cK<;>exact⟨t.eval a,by simp[execOp,cK],ab.op _ _ hD d⟩
def adY{u:dw}{y:dy}{q:cP}{v:cT}{c a o:hp}(l:Bool)(cK:y.op=.pick c a o)(b:dZ q c=B (bool l))(d:dZ q (if l then a else o)=B v):iH u y q v:=by intro x rd t w ab;have G:=hw<|ab.op _ _ hD b;refine⟨t.eval (if l then a else o),?_,ab.op _ _ (by cases l<;>simp[cK,VK]) d⟩;simp only[execOp,cK,G,asBool];cases l<;>simp
def f2(g:g0)(a o:Int):Int:=g.wrap ((n8 g.bits a&&&n8 g.bits o).toNat:Int)
def jD(g:g0)(a o:Int):Int:=g.wrap ((n8 g.bits a|||BitVec.ofInt g.bits o).toNat:Int)
def jn(g:g0)(a o:Int):Int:=g.wrap ((n8 g.bits a^^^n8 g.bits o).toNat:Int)
def vC(g:g0)(a o:Int):Int:=g.wrap ((n8 g.bits a&&& ~~~n8 g.bits o).toNat:Int)
def ji(g:g0)(a o:Int):Int:=g.wrap (a*2^min o.toNat g.bits)
def gh(g:g0)(a o:Int):Int:=a.fdiv (2^min o.toNat g.bits)
def hf(g:g0)(a o:Int):Int:=g.wrap (a.tdiv o)
def Sv(op:nL)(g:g0)(a o:Int):X cT:=match op with
 |.add=>B<|int g<|g.wrap<|a+o
 |.sub=>B<|int g<|g.wrap<|a-o
 |.mul=>B<|int g<|g.wrap<|a*o
 |.and=>B<|int g<|f2 g a o
 |.or=>B<|int g<|jD g a o
 |.xor=>B<|int g<|jn g a o
 |.andNot=>B<|int g<|vC g a o
 |.eql=>B<|bool<|a==o
 |.neq=>B<|bool<|a !=o
 |.lss=>B<|bool<|decide (a<o)
 |.leq=>B<|bool<|decide (a<=o)
 |.gtr=>B<|bool<|decide (a>o)
 |.geq=>B<|bool<|decide (a>=o)
 |_=>M
def FY{u:dw}{w:d2}(op:nL)(d:f1)(a o:hp)(g b:g0)(t l:Int):(eqGuard op d a o (.int g t) (.int b l)).run u w=.ok () w:=by unfold eqGuard;split<;>simp
def aqI{u:dw}{y:dy}{q:cP}{v:cT}{op:nL}{j k:f1}{a o:hp}{g:g0}(A n:Int)(cK:y.op=.binOp op j a o k)(d:dZ q a=B (int g A))(ad:dZ q o=B (int g n))(ab:Sv op g A n=B v):iH u y q v:=by
 intro x rd t w b;have G:=hw<|b.op _ _ hD d;have i:=hw<|b.op _ _ hD ad;cases op<;>simp only[Sv,reduceCtorEq]at ab;all_goals
  obtain rfl:=mg ab;refine⟨_,?_,q3 _ _ _⟩;simp[execOp,cK,G,i,FY,zL,Op.intArith,Op.intBits,Op.intCmp,f2,jD,jn,vC]
def MG(op:nL)(g:g0)(a o:Int):X (cT×Prop):=match op with
 |.quo=>B (int g<|hf g a o,o≠0)
 |.rem=>B (int g<|a.tmod o,o≠0)
 |.shl=>B (int g<|ji g a o,0<=o)
 |.shr=>B (int g<|gh g a o,0<=o)
 |_=>M
def B2{u:dw}{y:dy}{q:cP}{v:cT}{z:Prop}{op:nL}{k l:f1}{a o:hp}{g i:g0}(A n:Int)(af:op=.shl\/op=.shr\/i=g)(cK:y.op=.binOp op k a o l)(d:dZ q a=B (int g A))(ad:dZ q o=B (int i n))(ab:MG op g A n=B (v,z))(Y:z):iH u y q v:=by
 intro x rd t w j;have G:=hw<|j.op _ _ hD d;have b:=hw<|j.op _ _ hD ad;cases op<;>simp only[MG,reduceCtorEq]at ab;all_goals
  obtain⟨rfl,rfl⟩:=Prod.mk.inj<|mg ab;refine⟨_,?_,q3 _ _ _⟩
 case quo=>obtain rfl:i=g:=by simpa using af
           simp[execOp,cK,G,b,FY,zL,Op.intDiv,hf,Y]
 case rem=>obtain rfl:i=g:=by simpa using af
           simp[execOp,cK,G,b,FY,zL,Op.intDiv,Y]
 case shl=>simp[execOp,cK,G,b,FY,zL,Op.shift,ji,Int.not_lt.2 Y]
 case shr=>simp[execOp,cK,G,b,FY,zL,Op.shift,gh,Int.not_lt.2 Y]
def adT{u:dw}{y:dy}{q:cP}{op:nL}{b j:f1}{a o:hp}(A n r:Bool)(cK:y.op=.binOp op b a o j)(d:dZ q a=B (bool A))(ad:dZ q o=B (bool n))(aA:u.underlying b=B .bool)
  (ay:(op=.eql/\r=(A==n))\/(op=.neq/\r= !(A==n))):iH u y q (bool r):=by
 intro x rd t w g;have G:=hw<|g.op _ _ hD d;have i:=hw<|g.op _ _ hD ad;refine⟨_,?_,q3 _ _ _⟩;rcases ay with⟨rfl,rfl⟩|⟨rfl,rfl⟩<;>
 simp[execOp,cK,G,i,eqGuard,zL,run_equal_bool w b A n aA]
def Uw(op:UnOp):cT->X cT
 |.c (.cY (.bool l))=>match op with
  |.not=>B<|bool !l
  |_=>M
 |.c (.cY (.int g n))=>match op with
  |.neg=>B<|int g<|g.wrap<|0-n
  |.xor=>B<|int g<|jn g (if g.signed then-1 else g.max) n
  |_=>M
 |_=>M
def aqO{u:dw}{y:dy}{q:cP}{v g:cT}{op:UnOp}{j:f1}{a:hp}(cK:y.op=.unOp op j a)(d:dZ q a=B g)(ab:Uw op g=B v):iH u y q v:=by
 intro x rd t w i;have G:=i.op _ _ hD d;unfold Uw at ab;split at ab
 .have b:=hw G;split at ab<;>cases ab;exact⟨_,by simp[execOp,cK,b,OG],q3 _ _ _⟩
 .have b:=hw G;split at ab<;>cases ab
  .exact⟨_,by simp[execOp,cK,b,OG,Op.intArith],q3 _ _ _⟩
  .exact⟨_,by simp[execOp,cK,b,OG,Op.intBits,jn],q3 _ _ _⟩
 .cases ab
def aqE{u:dw}{y:dy}{q:cP}{i j:f1}{a:hp}{g:g0}(b:g0)(n:Int)(cK:y.op=.convert i j a)(d:dZ q a=B (int g n))(dI:u.underlying i=B (.int g))(aA:u.underlying j=B (.int b)):iH u y q (int b (b.wrap n)):=by intro x rd t w k;have G:=hw<|k.op _ _ hD d;exact⟨_,by simp[execOp,cK,G,convert,run_underlying aA,run_underlying dI,Conv.intToInt],q3 _ _ _⟩
def gc(u:dw)(a:f1):Bool:=match u.underlying a with
 |some (.struct _)=>T
 |some (.array _ _)=>T
 |_=>Z
def nw(u:dw)(d:f1)(b:E V):X cT:=match u.underlying d,u.info? d with
 |some _,B j=>if gc u d then(if j.size<=F b then B (.agg<|b.take j.size)else M)else match b with
  |a::_=>B<|.c a
  |[]=>M
 |_,_=>M
def qp(q:cP):cT->X (E V)
 |.c (.box i aq)=>match q.lj i with
  |some a=>B<|a.drop aq
  |none=>M
 |.c (.e1 a)=>B a
 |_=>M
theorem lJ.qp{x:dY}{rd:ez}{t:Act}{w:d2}{q:cP}{y:dy}(h:lJ x rd t w q y){p:dp}{v:cT}{b:E V}(ab:fM rd x p v)(a:qp q v=B b):
  ∃l y,p=.pointer (B ⟨l,y,M⟩)/\∀m o,b[m]?=B o->∃an,w.cell? ⟨l,y+m,M⟩=B an/\fA rd x an o:=by
 unfold Go.Proofs.YtddmdeaegbfhaaaGreat.qp at a;split at a
 .rename_i i aq;split at a
  next g cN=>cases a;simp only[fM,fA,ea]at ab;refine⟨_,_,ab,λm o ad=>?_⟩;rw[j2]at ad;have⟨an,G,d⟩:=h.box i _ cN _ o ad;exact⟨an,by rw[<-lH]at G;exact G,d⟩
  .cases a
 .cases a;simp only[fM,fA,ea]at ab;cases ab with
  |e1 l y _ f ay aA=>exact⟨l,y,rfl,λm o ad=>⟨f m,h.oy _ _ _ cU,(aA m o ad).c⟩⟩
 .cases a
theorem NI{u:dw}{w:d2}{x:dY}{rd:ez}{q:f1}{g:E V}{v:cT}{l y:Nat}(b:nw u q g=B v)(h:∀m o,g[m]?=B o->∃an,w.cell? ⟨l,y+m,M⟩=B an/\fA rd x an o):
  ∃p,(loadVar q ⟨l,y,M⟩).run u w=.ok p w/\fM rd x p v:=by
 unfold nw at b;split at b
 .rename_i i j k hi;split at b
  .rename_i d;split at b
   .rename_i aU;cases b;have N:∃f:Nat->dp,∀m,m<j.size->w.cell? ⟨l,y+m,M⟩=B (f m)/\∀o,g[m]?=B o->fA rd x (f m) o:=by refine⟨λm=>if aw:m<j.size then VL (h m g[m] cU)else undef,λm aw=>?_⟩;have t:=OH<|h m g[m] cU;simp only[aw,dif_pos];refine⟨t.1,λo ad=>?_⟩;rw[e6 (by omega:m<F g)]at ad;cases ad;exact t.2
    have⟨f,z⟩:=N;have cN:=run_loadCells (P:=u) (w:=w) ⟨l,y,M⟩ j.size f (λm aw=>by rw[iS];exact(z m aw).1);have s:(isAgg q).run u w=.ok T w:=by unfold gc at d;rw[k]at d;cases i<;>simp only[j0]at d<;>simp[isAgg,run_underlying k]
    refine⟨_,by simp[loadVar,s,sizeOf,typeInfo,hi,cN];rfl,_,rfl,?_⟩;refine⟨fv,λm o ad=>?_⟩;rw[jd]at ad;split at ad
    next aw=>exact⟨f m,by simp[aw],(z m aw).2 o ad⟩
    .cases ad
   .cases b
  .rename_i d;split at b
   .rename_i a C;cases b;have⟨an,G,A⟩:=h 0 a rfl;have s:(isAgg q).run u w=.ok Z w:=by unfold gc at d;rw[k]at d;cases i<;>simp only[not_true_eq_false]at d<;>simp[isAgg,run_underlying k]
    refine⟨an,?_,A⟩;simp only[jO]at G;simp[loadVar,s,load,mZ,G]
   .cases b
 .cases b
def adW{u:dw}{y:dy}{q:cP}{v z:cT}{i:f1}{a:hp}{b:E V}(cK:y.op=.load i a)(d:dZ q a=B z)(o:qp q z=B b)(ab:nw u i b=B v):iH u y q v:=by intro x rd t w g;have⟨l,aq,G,j⟩:=g.qp (g.op _ _ hD d) o;have⟨p,k,m⟩:=NI (u:=u) ab j;exact⟨p,by simp[execOp,cK,G,VM,qB,k],m⟩
def shift(n:Nat):cT->X cT
 |.c (.box i aq)=>B<|.c<|.box i<|aq+n
 |.c (.e1 a)=>B<|.c<|.e1<|a.drop n
 |.c (.hn i q j aq)=>B<|.c<|.hn i q j<|aq+n
 |_=>M
theorem aec{rd:ez}{x:dY}{p:dp}{z v:cT}{n:Nat}(h:fM rd x p z)(aj:shift n z=B v):∃l y,p=.pointer (B ⟨l,y,M⟩)/\fM rd x (.pointer (B ⟨l,y+n,M⟩)) v:=by
 unfold shift at aj;split at aj
 .cases aj;simp only[fM,fA,ea]at h⊢;exact ef
 .cases aj;simp only[fM,fA,ea]at h⊢;cases h with
  |e1 l y a f ay aA=>
   refine⟨l,y,rfl,.e1 l (y+n) _ (λm=>f<|n+m) (λm o ad=>?_) λm o ad=>?_⟩
   .rw[j2]at ad;rw[lH];exact ay _ o ad
   .rw[j2]at ad;exact aA _ o ad
 .cases aj;obtain⟨l,Q,c,G,rfl⟩:=h;exact⟨l,_,rfl,l,Q,c,G,by rw[lH]⟩
 .cases aj
def Sd(u:dw)(a:f1)(g:Nat):X Nat:=match u.underlying a with
 |some (.struct eU)=>match eU[g]? with
  |some f=>match u.info? f.type with
   |some j=>if j.size=0 then M else B f.offset
   |none=>M
  |none=>M
 |_=>M
def aqG{u:dw}{y:dy}{q:cP}{v z:cT}{i:f1}{a:hp}{g n:Nat}(cK:y.op=.fieldAddr i a g)(d:dZ q a=B z)(b:Sd u i g=B n)(ab:shift n z=B v):iH u y q v:=by
 intro x rd t w m;have⟨l,aq,G,k⟩:=aec (m.op _ _ hD d) ab;unfold Sd at b;split at b
 .rename_i eU aA;split at b
  .rename_i f af;split at b
   .rename_i j hi;split at b
    .cases b
    next N=>cases b;refine⟨_,?_,k⟩;simp[execOp,cK,G,Instr.fieldAt,run_underlying aA,af,qB,fieldPlace,sizeOf,typeInfo,hi,N,iS]
   .cases b
  .cases b
 .cases b
def adV{u:dw}{y:dy}{q:cP}{v z:cT}{i e:f1}{a o:hp}{g:g0}(A sz:Nat)(j:Int)(n:Nat)(cK:y.op=.indexAddr i a o)(d:dZ q a=B z)(ad:dZ q o=B (int g j))(aA:u.underlying i=B (.array A e))(hi:(u.info? e).map (·.size)=B sz)
  (dI:0<=j)(s:j<A)(cR:n=j.toNat*sz)(ab:shift n z=B v):iH u y q v:=by
 intro x rd t w b;have G:=hw<|b.op _ _ hD ad;have⟨l,aq,k,p⟩:=aec (b.op _ _ hD d) ab;obtain⟨m,aw,rfl⟩:=gG.1 hi;subst cR;refine⟨_,?_,p⟩;simp[execOp,cK,G,k,zM,asIntOf,run_underlying aA,qB,dI,s,sizeOf,typeInfo,aw,iS]
theorem aqH{u:dw}{y:dy}{q:cP}{k e:f1}{a o:hp}{g:g0}(tag sz Q:Nat)(ae:E (E V))(j:Int)(c:E V)(cK:y.op=.indexAddr k a o)(d:dZ q a=B (.c (.d_ sz tag Q ae)))(ad:dZ q o=B (int g j))(aA:u.underlying k=B (.slice e))(hi:(u.info? e).map (·.size)=B sz)
  (dI:0<=j)(p:ae[j.toNat]?=B c):iH u y q (.c<|.e1 c):=by
 intro x rd t w i;have G:=hw<|i.op _ _ hD ad;have b:=i.op _ _ hD d;have⟨m,aw,aU⟩:=gG.1 hi;simp only[fM,fA,ea]at b;have aX:=(ie.1 p).1;generalize ab:t.eval a=v at*;have⟨b,_⟩:=b;cases b with
 |nil=>simp at aX
 |d_ l aq n s q ae f cR A z aj ay C=>refine⟨_,?_,.e1 l (aq+j.toNat*sz) c (λm=>f j.toNat m) cU cU⟩;have:j<(Q:Int):=I;simp[execOp,cK,G,ab,zM,asIntOf,run_underlying aA,dI,this,sizeOf,typeInfo,aw,iS,aU]
def aqM{u:dw}{y:dy}{q:cP}{v:cT}{a:hp}(cK:y.op=.nilCheck a)(d:dZ q a=B v)(Y:(qp q v).isSome=T):iH u y q v:=by intro x rd t w g;have G:=g.op _ _ hD d;have⟨j,i⟩:=lb.1 Y;have⟨l,aq,b,_⟩:=g.qp G i;exact⟨_,by simp[execOp,cK,b],b▸G⟩
def aqJ{u:dw}{y:dy}{q:cP}{b:f1}{a:hp}{e:f1}{v:cT}(Q:Nat)(cK:y.op=.call {callee:=.builtin .len,args:= #[a],argTypes:= #[b]})(g:dZ q a=B v)(aA:u.underlying b=B (.slice e))(ab:∀x rd t w,lJ x rd t w q y->∃ak c,t.eval a=.slice ak Q c):iH u y q (int W Q):=by intro x rd t w d;have⟨ak,c,ab⟩:=ab x rd t w d;exact⟨_,by simp[execOp,cK,resolve,invoke,builtin,Builtin.len_,run_underlying aA,ab,goInt],q3 _ _ _⟩
def aqK{u:dw}{y:dy}{q:cP}{j:Array f1}{a o:hp}{g:g0}(A n:Int)(cK:y.op=.call {callee:=.builtin .max,args:= #[a,o],argTypes:=j})(d:dZ q a=B (int g A))(ad:dZ q o=B (int g n)):iH u y q (int g (if A<n then n else A)):=by intro x rd t w b;have G:=hw<|b.op _ _ ml d;have i:=hw<|b.op _ _ ml ad;exact⟨_,by simp[execOp,cK,resolve,invoke,builtin,Builtin.max_,Builtin.max2,G,i],q3 _ _ _⟩
def aqL{u:dw}{y:dy}{q:cP}{j:Array f1}{a o:hp}{g:g0}(A n:Int)(cK:y.op=.call {callee:=.builtin .min,args:= #[a,o],argTypes:=j})(d:dZ q a=B (int g A))(ad:dZ q o=B (int g n)):iH u y q (int g (if n<A then n else A)):=by intro x rd t w b;have G:=hw<|b.op _ _ ml d;have i:=hw<|b.op _ _ ml ad;exact⟨_,by simp[execOp,cK,resolve,invoke,builtin,Builtin.min_,Builtin.min2,G,i],q3 _ _ _⟩
def adU{u:dw}{y:dy}{q:cP}{a:hp}{g:Nat}{v:cT}(j:E (Bool×E V))(o:Bool×E V)(cK:y.op=.extract a g)(d:dZ q a=B (.eu j))(af:j[g]?=B o)(ab:v=if o.1 then .agg o.2 else match o.2 with|an::_=>.c an|[]=>.agg []):iH u y q v:=by
 intro x rd t w z;have i:=z.op _ _ hD d;simp only[fM]at i;have⟨P,k,A,l⟩:=i;have⟨p,m,b⟩:=l g o af;refine⟨p,by simp[execOp,cK,k,Instr.extract,m],?_⟩;subst ab;unfold p9 at b;split
 next ad=>rw[dE ad]at b;exact b
 next ad=>rw[dA ad]at b;have⟨an,s,C⟩:=b;rwa[s]
def cellsOf:cT->X (E V)
 |.c (.cY (.agg _))=>M
 |.c .any=>M
 |.c a=>B [a]
 |.agg b=>B b
 |.eu _=>M
def B4{rd:ez}{x:dY}{p:dp}{v:cT}{i:E V}(h:fM rd x p v)(b:cellsOf v=B i):j3 rd x p.cells i:=by
 unfold cellsOf at b;split at b
 .cases b
 .cases b
 .rename_i a d j;cases b;have:p.cells= #[p]:=by
   unfold Value.cells;split
   .rename_i k;exfalso;simp only[fM]at h;cases a<;>simp only[fA,ea]at h
    case cY=>cases h;exact d _ rfl
    case d_=>cases h.1
    case e1=>cases h
    case box=>cases h
    case dk=>obtain⟨G,⟨t,n,c,g⟩|⟨r,g⟩⟩:=h<;>(rw[g]at G;cases G)
    case row=>have⟨t,n,c,G,g,_⟩:=h;cases g
    case ip=>have⟨t,c,G,_⟩:=h;cases G
    case sub=>have⟨_,_,_,_,_,_,_,G,_⟩:=h;cases G
    case hn=>have⟨_,_,_,_,G⟩:=h;cases G
    case gQ=>obtain⟨_,G|⟨_,_,G⟩⟩:=h<;>cases G
    case hV=>obtain⟨_,_,_,G⟩|⟨_,G⟩:=h.pq<;>cases G
    case any=>exact j rfl
    case gf=>have⟨t,G,_⟩:=h;cases G
   .rfl
  rw[this];refine⟨rfl,λm o ad=>?_⟩;cases m with
  |zero=>cases ad;exact⟨p,rfl,h⟩
  |succ m=>simp at ad
 .cases b;simp only[fM]at h;obtain⟨k,rfl,g⟩:=h;exact g
 .cases b
def Bs(b:Nat->X (Nat×Nat))(cells:E V):E (Nat×cT)->X (E V)
 |[]=>B cells
 |(j,v)::d=>match b j with
  |none=>M
  |some (aq,g)=>match cellsOf v with
   |none=>M
   |some a=>if F a≠g||aq+F a>F cells then M else Bs b (cells.take aq++a++cells.drop (aq+F a)) d
def Mm(aq:Nat):∀(s:E dp) (j:Nat) (cells:Array dp),let r:=(s.zipIdx j).foldl (λi (z:dp×Nat)=>i.setIfInBounds (aq+z.2) z.1) cells
  r.size=cells.size/\∀g,r[g]?=if aq+j<=g/\g<aq+j+F s/\g<cells.size then s[g-(aq+j)]? else cells[g]?
 |[],j,cells=>by simp only[List.zipIdx_nil,List.foldl_nil,kv,true_and];intro g;rw[dA I]
 |a::s,j,cells=>by
  have d:=Mm aq s (j+1)<|cells.setIfInBounds (aq+j) a;simp only[List.zipIdx_cons,List.foldl_cons]at d⊢;refine⟨by simpa using d.1,λg=>?_⟩;rw[d.2 g];simp only[Array.size_setIfInBounds,l6,HV];by_cases G:g=aq+j
  .subst G;rw[dA I,dE rfl];by_cases b:aq+j<cells.size
   .rw[dE b,dE I];simp
   .rw[dA b,dA I];rw[uy I]
  .rw[dA (l5 G)];by_cases b:aq+(j+1)<=g/\g<aq+(j+1)+F s/\g<cells.size
   .rw[dE b,dE I];rw[(dd:g-(aq+j)=(g-(aq+(j+1)))+1),VN]
   .rw[dA b,dA I]
theorem Ml{rd:ez}{x:dY}{A:Nat->X (Nat×Nat)}:∀(l:E (Nat×dp)) (q:E (Nat×cT)) (cells:Array dp) (b i:E V),F l=F q->
  (∀(j:Nat) (z:Nat×dp) (C:Nat×cT),l[j]?=B z->q[j]?=B C->z.1=C.1/\fM rd x z.2 C.2)->j3 rd x cells b->Bs A b q=B i->∃r,uz A cells l=B r/\j3 rd x r i
 |[],[],cells,b,i,_,_,d,h=>by cases h;exact⟨cells,rfl,d⟩
 |(j,v)::l,(m,a)::q,cells,b,i,cN,ay,d,h=>by
  obtain⟨rfl,ab⟩:=ay 0 _ _ rfl rfl;simp only[Bs]at h;simp only[uz];split at h
  .cases h
  .rename_i aq aa Y;split at h
   .cases h
   .rename_i t S;split at h
    .cases h
    .rename_i y;simp only[lc,i6,not_or,VO,OI]at y;have aj:=B4 ab S;simp only[Y];rw[dA (by simp only[lc,i6,not_or,VO,OI,aj.1,d.1];exact y)];have u:=Mm aq v.cells.toList 0 cells;simp only at u;have e:v.cells.zipIdx.foldl (λb a=>b.setIfInBounds (aq+a.2) a.1) cells=(v.cells.toList.zipIdx 0).foldl (λb (z:dp×Nat)=>b.setIfInBounds (aq+z.2) z.1) cells:=by rw[<-VP,VQ]
     have D:zN (λb (a:dp×Nat)=>match a with|(c,m)=>b.setIfInBounds (aq+m) c) cells v.cells.zipIdx=(v.cells.toList.zipIdx 0).foldl (λb (z:dp×Nat)=>b.setIfInBounds (aq+z.2) z.1) cells:=e;rw[D];generalize(v.cells.toList.zipIdx 0).foldl (λb (z:dp×Nat)=>b.setIfInBounds (aq+z.2) z.1) cells=r at u⊢;refine Ml l q r _ i cU (λg z C G s=>ay (g+1) z C G s) ?_ h;have⟨K,N⟩:=u;have Q:F v.cells.toList=F t:=by simpa using aj.1
     refine⟨by simp[K,d.1];omega,λg o ad=>?_⟩;rw[N g,Q,d.1];simp only[jO];rw[iu,p7]at ad;simp only[hO,jw (by omega:aq<=F b)]at ad;by_cases G:g<aq
     .rw[dE G,jd,dE G]at ad;rw[dA I];exact d.2 g o ad
     .rw[dA G,p7]at ad;by_cases s:g-aq<F t
      .rw[dE s]at ad;rw[dE I];have⟨p,k,P⟩:=aj.2 _ o ad;exact⟨p,Xz,P⟩
      .rw[dA s,j2]at ad;rw[dA I];rw[(dd:aq+F t+(g-aq-F t)=g)]at ad;exact d.2 g o ad
 |[],_::_,_,_,_,cN,_,_,_=>by simp at cN
 |_::_,[],_,_,_,cN,_,_,_=>by simp at cN
def zn(q:cP):E (Nat×hp)->X (E (Nat×cT))
 |[]=>B []
 |(j,a)::s=>match dZ q a,zn q s with
  |some v,B r=>B<|(j,v)::r
  |_,_=>M
def adH{q:cP}:∀(s:E (Nat×hp)) (r:E (Nat×cT)),zn q s=B r->F s=F r/\∀(j:Nat) (z:Nat×hp) (C:Nat×cT),s[j]?=B z->r[j]?=B C->z.1=C.1/\dZ q z.2=B C.2
 |[],r,h=>by cases h;exact⟨rfl,λj z C G=>ET⟩
 |(j,a)::s,r,h=>by
  simp only[zn]at h;split at h
  .rename_i v d ab ay;cases h;have⟨G,b⟩:=adH s d ay;refine⟨by simp[G],λg z C Y ap=>?_⟩;cases g with
   |zero=>cases Y;cases ap;exact⟨rfl,ab⟩
   |succ g=>exact b g z C Y ap
  .cases h
def adM(u:dw)(d:f1):X ((Nat->X (Nat×Nat))×E V):=
 match u.info? d,u.underlying d with
 |some a,B (.array _ e)=>match a.zero,u.info? e with
  |some an,B b=>B (λj=>B (j*b.size,b.size),an.cells.toList.map V.cY)
  |_,_=>M
 |some a,B (.struct g)=>match a.zero,g.toList.mapM (λf=>(u.info? f.type).map λj=>(f.offset,j.size))with
  |some an,B i=>B ((i.toArray[·]?),an.cells.toList.map V.cY)
  |_,_=>M
 |_,_=>M
def RI(u:dw)(q:cP)(d:f1)(jF:E (Nat×hp)):X cT:=match adM u d,zn q jF with
 |some (f6,an),B b=>match Bs f6 an b with
  |some a=>B<|.agg a
  |none=>M
 |_,_=>M
def SP(rd:ez)(x:dY)(a:Array dp):j3 rd x a (a.toList.map V.cY):=by refine⟨dh,λm o ad=>?_⟩;rw[gy]at ad;obtain⟨p,aA,rfl⟩:=gG.1 ad;exact⟨p,Ll,.cY p⟩
theorem atv{jF:Array (Nat×hp)}{j:Nat}{z:Nat×hp}(h:jF.toList[j]?=B z):z.2∈(jF.toList.map (·.2)).toArray.toList:=by simp only[hT];exact ef
def TC{x:dY}{rd:ez}{t:Act}{w:d2}{q:cP}{y:dy}(ab:lJ x rd t w q y){jF:Array (Nat×hp)}{b:E (Nat×cT)}(o:zn q jF.toList=B b)(m:∀(j:Nat) (z:Nat×hp),jF.toList[j]?=B z->z.2∈y.op.operands.toList):
  F ((jF.map λ(j,a)=>(j,t.eval a)).toList)=F b/\∀(j:Nat) (z:Nat×dp) (C:Nat×cT),((jF.map λ(j,a)=>(j,t.eval a)).toList)[j]?=B z->b[j]?=B C->z.1=C.1/\fM rd x z.2 C.2:=by
 have⟨G,i⟩:=adH _ _ o;refine⟨wF,λj z C Y ap=>?_⟩;rw[Array.toList_map,gy]at Y;obtain⟨g,d,rfl⟩:=gG.1 Y;have⟨k,l⟩:=i j g C d ap;exact⟨k,ab.op _ _ (m j g d) l⟩
def aqD{u:dw}{y:dy}{q:cP}{v:cT}{g:f1}{jF:Array (Nat×hp)}(cK:y.op=.build g jF)(ab:RI u q g jF.toList=B v):iH u y q v:=by
 intro x rd t w C;unfold RI at ab;split at ab
 .rename_i f6 an P b A;split at ab
  .rename_i l s;cases ab;have⟨D,K⟩:=TC C A λj z Y=>W5
   have key:∀d:Array dp,d.toList.map V.cY=an->∃r,uz f6 d (jF.map λ(j,a)=>(j,t.eval a)).toList=B r/\j3 rd x r l:=λd N=>by subst N;exact Ml _ P d _ l D K (SP rd x d) s
   have p:∃r,u.built g (jF.map λ(j,a)=>(j,t.eval a)).toList=B r/\j3 rd x r l:=by
    unfold adM at b;unfold Program.built;cases kq:u.info? g with
    |none=>simp[kq]at b
    |some o=>
     cases aA:u.underlying g with
     |none=>simp[kq,aA]at b
     |some i=>
      cases i<;>simp only[kq,aA,reduceCtorEq]at b⊢
      case array n e=>
       cases N:o.zero with
       |none=>simp[N]at b
       |some d=>
        cases k:u.info? e with
        |none=>simp[N,k]at b
        |some Q=>simp only[N,k,h0,mh]at b⊢;obtain⟨rfl,m⟩:=b;exact key _ m
      case struct eU=>
       cases N:o.zero with
       |none=>simp[N]at b
       |some d=>
        cases k:eU.toList.mapM (λf=>(u.info? f.type).map λj=>(f.offset,j.size))with
        |none=>simp[N,k]at b
        |some S=>simp only[N,k,h0,mh]at b⊢;obtain⟨rfl,m⟩:=b;exact key _ m
   have⟨r,a1,aJ⟩:=p;exact⟨.agg r,by simp[execOp,cK,run_build w g _ _ a1],r,rfl,aJ⟩
  .cases ab
 .cases ab
def Mi(u:dw)(d:f1->E V->E V->X Bool):E Field->E V->E V->X Bool
 |[],_,_=>B T
 |f::eU,a,b=>if f.name= "_" then M else match u.info? f.type with
  |none=>M
  |some j=>if j.size<=F (a.drop f.offset)/\j.size<=F (b.drop f.offset)/\0<j.size/\(gc u f.type=Z->j.size=1)then
    match d f.type ((a.drop f.offset).take j.size)<|(b.drop f.offset).take j.size,Mi u d eU a b with
    |some t,B l=>B<|t&&l
    |_,_=>M
   else M
def Mj(u:dw)(d:f1->E V->E V->X Bool)(e:f1)(c:Nat):E Nat->E V->E V->X Bool
 |[],_,_=>B T
 |m::g,a,b=>if c<=F (a.drop<|m*c)/\c<=F (b.drop<|m*c)/\0<c/\(gc u e=Z->c=1)then
   match d e ((a.drop<|m*c).take c)<|(b.drop<|m*c).take c,Mj u d e c g a b with
   |some t,B l=>B<|t&&l
   |_,_=>M
  else M
def lT(u:dw):Nat->f1->E V->E V->X Bool
 |0,_,_,_=>M
 |i+1,d,a,b=>match u.underlying d with
  |some .bool=>match a,b with
   |.cY (.bool t)::_,.cY (.bool l)::_=>B<|t==l
   |_,_=>M
  |some (.int _)=>match a,b with
   |.cY (.int g t)::_,.cY (.int k l)::_=>if g=k then B (t==l)else M
   |_,_=>M
  |some (.struct eU)=>if u.stoodInHeld d then M else Mi u (lT u i) eU.toList a b
  |some (.array n e)=>match u.info? e with
   |some j=>Mj u (lT u i) e j.size (jG n) a b
   |none=>M
  |_=>M
def pD(u:dw)(rd:ez)(x:dY)(d:f1)(a:dp)(b:E V):Prop:=if gc u d then∃ae,a=.agg ae/\j3 rd x ae b else∃c,b=[c]/\fA rd x a c
theorem B8{u:dw}{w:d2}{rd:ez}{x:dY}{b:f1}{i:TypeDesc}{j:n9}{ae:Array dp}{d:E V}{aq:Nat}(g:u.underlying b=B i)(hi:u.info? b=B j)(G:gc u b=Z->j.size=1)(aU:j.size<=F (d.drop aq))(dI:0<j.size)(h:j3 rd x ae d):
  ∃t,(part b ae aq).run u w=.ok t w/\pD u rd x b t ((d.drop aq).take j.size):=by
 simp only[my]at aU;unfold pD;by_cases a:gc u b=T
 .have l:(isAgg b).run u w=.ok T w:=by unfold gc at a;rw[g]at a;cases i<;>simp only[j0]at a<;>simp[isAgg,run_underlying g]
  refine⟨.agg<|ae.extract aq<|aq+j.size,by simp[part,l,sizeOf,typeInfo,hi],?_⟩;rw[dE a];refine⟨_,rfl,by have:=h.1;simp;omega,λm o ad=>?_⟩;rw[jd]at ad;split at ad
  next aw=>rw[j2]at ad;have⟨p,q,k⟩:=h.2 _ o ad;refine⟨p,?_,k⟩;have:=h.1;rwa[Cu,dE I]
  .cases ad
 .have s:gc u b=Z:=by simpa using a
  have l:(isAgg b).run u w=.ok Z w:=by unfold gc at a;rw[g]at a;cases i<;>simp only[not_true_eq_false]at a<;>simp[isAgg,run_underlying g]
  have aj:=G s;have⟨p,q,k⟩:=h.2 aq d[aq] cU;refine⟨p,by simp[part,l,q],?_⟩;rw[dA a,aj];refine⟨d[aq],?_,k⟩;rw[List.drop_eq_getElem_cons I];rfl
theorem Mk{u:dw}{rd:ez}{x:dY}:∀(i:Nat) (b:f1) (a o:dp) (A C:E V) (r:Bool) (k:Nat) (w:d2),i<=k->pD u rd x b a A->pD u rd x b o C->lT u i b A C=B r->(Op.equalIn k b a o).run u w=.ok r w
 |0,_,_,_,_,_,_,_,_,_,_,_,h=>o0
 |i+1,b,a,o,A,C,r,0,w,am,d,ad,h=>I
 |i+1,b,a,o,A,C,r,k+1,w,am,d,ad,h=>by
  unfold lT at h;split at h
  .rename_i aA;have y:gc u b=Z:=yx;unfold pD at d ad;rw[dA cU]at d ad;obtain⟨c,rfl,d⟩:=d;obtain⟨ak,rfl,ad⟩:=ad;split at h
   next G N=>cases G;cases N;cases h;cases d;cases ad;exact run_equalIn_bool w k b _ _ aA
   .cases h
  .rename_i an aA;have y:gc u b=Z:=yx;unfold pD at d ad;rw[dA cU]at d ad;obtain⟨c,rfl,d⟩:=d;obtain⟨ak,rfl,ad⟩:=ad;split at h
   .rename_i G N;split at h
    next af=>cases G;cases N;cases h;subst af;cases d;cases ad;exact run_equalIn_int w k b _ an _ _ aA
    .cases h
   .cases h
  .rename_i eU aA;have y:gc u b=T:=yx;unfold pD at d ad;rw[dE y]at d ad;obtain⟨ae,rfl,d⟩:=d;obtain⟨ai,rfl,ad⟩:=ad;split at h
   .cases h
   .rename_i ao;have aj:u.fieldsOf b=eU:=by simp[Program.fieldsOf,aA]
    rw[run_equalIn_struct w k b ae ai cU cU,aj];clear aA aj;generalize eU.toList=s at h;induction s generalizing r with
    |nil=>cases h;simp[Op.eqFields]
    |cons f s S=>
     simp only[Mi]at h;split at h
     .cases h
     .rename_i cR;split at h
      .cases h
      .rename_i j hi;split at h
       .rename_i g;split at h
        .rename_i t l q P;cases h;have Q:∃p,u.underlying f.type=B p:=by
          cases aA:u.underlying f.type with
          |some p=>exact cU
          |none=>
           exfalso;cases i with
           |zero=>cases q
           |succ i=>simp[lT,aA]at q
         have⟨p,z⟩:=Q;have⟨ag,aa,D⟩:=B8 (w:=w) z hi g.2.2.2 g.1 g.2.2.1 d;have⟨ah,ab,K⟩:=B8 (w:=w) z hi g.2.2.2 g.2.1 g.2.2.1 ad;have aG:=Mk i f.type ag ah _ _ t k w I D K q;have aD:=S l P;simp only[Op.eqFields,ne_eq,cR,not_false_eq_true,if_true,g3,aa,ab,aG,gn];cases t
         .simp
         .simpa using aD
        .cases h
       .cases h
  .rename_i n e aA;have y:gc u b=T:=yx;unfold pD at d ad;rw[dE y]at d ad;obtain⟨ae,rfl,d⟩:=d;obtain⟨ai,rfl,ad⟩:=ad;split at h
   .rename_i j hi;rw[run_equalIn_array w k ae ai aA hi];have al:u.cellsOf e=j.size:=agJ;rw[al];clear aA;generalize jG n=s at h;induction s generalizing r with
    |nil=>cases h;simp[Op.eqItems]
    |cons m s S=>
     simp only[Mj]at h;split at h
     .rename_i g;split at h
      .rename_i t l q P;cases h;have Q:∃p,u.underlying e=B p:=by
        cases aA:u.underlying e with
        |some p=>exact cU
        |none=>
         exfalso;cases i with
         |zero=>cases q
         |succ i=>simp[lT,aA]at q
       have⟨p,z⟩:=Q;have⟨ag,aa,D⟩:=B8 (w:=w) z hi g.2.2.2 g.1 g.2.2.1 d;have⟨ah,ab,K⟩:=B8 (w:=w) z hi g.2.2.2 g.2.1 g.2.2.1 ad;have aG:=Mk i e ag ah _ _ t k w I D K q;have aD:=S l P;simp only[Op.eqItems,g3,aa,ab,aG,gn];cases t
       .simp
       .simpa using aD
      .cases h
     .cases h
   .cases h
  .cases h
def adS{u:dw}{y:dy}{q:cP}{op:nL}{b A:f1}{a o:hp}{v:cT}(g i:E V)(r:Bool)(cK:y.op=.binOp op b a o A)(d:dZ q a=B (.agg g))(ad:dZ q o=B (.agg i))(ar:u.eqGuardType u.depth b=Z)(z:gc u b=T)
  (h:lT u 40 b g i=B r)(ab:(op=.eql/\v=bool r)\/(op=.neq/\v=bool !r)):iH u y q v:=by
 intro x rd t w l;have G:=l.op _ _ hD d;have s:=l.op _ _ hD ad;have⟨ae,m,C⟩:=G;have⟨j,p,D⟩:=s;have k:=Mk (rd:=rd) (x:=x) 40 b (.agg ae) (.agg j) g i r 10000 w dd agO agO h;rcases ab with⟨rfl,rfl⟩|⟨rfl,rfl⟩
 .refine⟨.bool r,?_,q3 _ _ _⟩;simp only[execOp,cK,m,p,g3,run_eqGuard_agg w .eql b a o ae j ar,gn,run_eql_struct,k,hM]
 .refine⟨.bool<|!r,?_,q3 _ _ _⟩;simp only[execOp,cK,m,p,g3,run_eqGuard_agg w .neq b a o ae j ar,gn,run_neq_struct,k,hM]
def RG(u:dw)(op:nL)(a:f1):cT->cT->X cT
 |.c (.cY (.int g A)),.c (.cY (.int b n))=>match op with
  |.shl=>if decide (0<=n)then B (int g<|ji g A n)else M
  |.shr=>if decide (0<=n)then B (int g<|gh g A n)else M
  |.quo=>if b=g then(if decide (n≠0)then B (int g<|hf g A n)else M)else M
  |.rem=>if b=g then(if decide (n≠0)then B (int g<|A.tmod n)else M)else M
  |op=>if b=g then Sv op g A n else M
 |.c (.cY (.bool A)),.c (.cY (.bool n))=>match u.underlying a with
  |some .bool=>match op with
   |.eql=>B<|bool<|A==n
   |.neq=>B<|bool !(A==n)
   |_=>M
  |_=>M
 |.agg d,.agg i=>if gc u a&& !(u.eqGuardType u.depth a)then match lT u 40 a d i with
   |some r=>match op with
    |.eql=>B<|bool r
    |.neq=>B<|bool !r
    |_=>M
   |none=>M
  else M
 |_,_=>M
theorem ajZ{u:dw}{y:dy}{q:cP}{v t l:cT}{op:nL}{k m:f1}{a o:hp}(cK:y.op=.binOp op k a o m)(d:dZ q a=B t)(ad:dZ q o=B l)(h:RG u op k t l=B v):iH u y q v:=by
 unfold RG at h;split at h
 .rename_i g A p n;split at h
  .split at h
   next cR=>cases h;exact B2 A n cU cK d ad rfl cU
   .cases h
  .split at h
   next cR=>cases h;exact B2 A n cU cK d ad rfl cU
   .cases h
  .split at h
   .rename_i af;split at h
    next cR=>cases h;exact B2 A n cU cK d ad rfl cU
    .cases h
   .cases h
  .split at h
   .rename_i af;split at h
    next cR=>cases h;exact B2 A n cU cK d ad rfl cU
    .cases h
   .cases h
  .split at h
   next af=>subst af;exact aqI A n cK d ad h
   .cases h
 .rename_i A n;split at h
  .rename_i aA;split at h
   .cases h;exact adT A n _ cK d ad aA cU
   .cases h;exact adT A n _ cK d ad aA cU
   .cases h
  .cases h
 .rename_i i j;split at h
  .rename_i b;simp only[fz,xA]at b;split at h
   .rename_i r ay;split at h
    .cases h;exact adS i j r cK d ad b.2 b.1 ay cU
    .cases h;exact adS i j r cK d ad b.2 b.1 ay cU
    .cases h
   .cases h
  .cases h
 .cases h
def SL(q:cP):cT->X Nat
 |.c (.d_ _ _ Q _)=>B Q
 |.c (.cY (.slice M 0 0))=>B 0
 |.c (.dk i)=>match cO q.Y i with
  |some (.row _ _ n _)=>B n
  |_=>M
 |.c (.row _ n)=>B n
 |.c (.ip _ _ n)=>B n
 |.c (.sub _ _ _ n)=>B n
 |_=>M
theorem ama{q:cP}{v:cT}{Q:Nat}(h:SL q v=B Q){x:dY}{rd:ez}{t:Act}{w:d2}{y:dy}(ab:lJ x rd t w q y){p:dp}(aA:fM rd x p v):∃ak c,p=.slice ak Q c:=by
 unfold SL at h;split at h
 .cases h;have⟨G,_⟩:=aA;cases G with
  |nil=>exact cU
  |d_=>exact cU
 .cases h;exact⟨_,_,hw aA⟩
 .rename_i i;split at h
  .rename_i e sz n ae cN;cases h;obtain⟨rfl,_⟩:=aA;have⟨P,G,_⟩:=ab.gg i _ cN;rcases G.2 with⟨a,b⟩|⟨aW,aV,ao,a,_⟩
   .rw[a,b];exact cU
   .exact cU
  .cases h
 .cases h;have⟨ak,d,c,_,a,_⟩:=aA;exact cU
 .cases h;have⟨ak,c,a,_⟩:=aA;exact cU
 .cases h;have⟨_,_,_,_,_,_,_,a,_⟩:=aA;exact cU
 .cases h
def RK(u:dw)(q:cP)(c:Call):X cT:=match c.callee with
 |.builtin .len=>match c.args.toList,c.argTypes.toList with
  |[a],[d]=>match dZ q a,u.underlying d with
   |some v,B (.slice _)=>match SL q v with
    |some Q=>B<|int W Q
    |none=>M
   |_,_=>M
  |_,_=>M
 |.builtin .min=>match c.args.toList with
  |[a,o]=>match dZ q a,dZ q o with
   |some (.c (.cY (.int g A))),B (.c (.cY (.int b n)))=>if b=g then B (int g (if n<A then n else A))else M
   |_,_=>M
  |_=>M
 |.builtin .max=>match c.args.toList with
  |[a,o]=>match dZ q a,dZ q o with
   |some (.c (.cY (.int g A))),B (.c (.cY (.int b n)))=>if b=g then B (int g (if A<n then n else A))else M
   |_,_=>M
  |_=>M
 |_=>M
def aj8{u:dw}{y:dy}{q:cP}{v:cT}{c:Call}(cK:y.op=.call c)(h:RK u q c=B v):iH u y q v:=by
 have⟨callee,args,j⟩:=c;unfold RK at h;simp only at h;split at h
 .split at h
  .rename_i a m b ax;have i:args= #[a]:=by rw[<-lF (xs:=args),b]
   have k:j= #[m]:=by rw[<-lF (xs:=j),ax]
   subst i k;split at h
   .rename_i p e d aA;split at h
    next Q aW=>cases h;exact aqJ Q cK d aA λx rd t w ab=>ama aW ab<|ab.op _ _ ml d
    .cases h
   .cases h
  .cases h
 .split at h
  .rename_i a o b;have i:args= #[a,o]:=by rw[<-lF (xs:=args),b]
   subst i;split at h
   .rename_i g A l n d ad;split at h
    next af=>subst af;cases h;exact aqL A n cK d ad
    .cases h
   .cases h
  .cases h
 .split at h
  .rename_i a o b;have i:args= #[a,o]:=by rw[<-lF (xs:=args),b]
   subst i;split at h
   .rename_i g A l n d ad;split at h
    next af=>subst af;cases h;exact aqK A n cK d ad
    .cases h
   .cases h
  .cases h
 .cases h
theorem aqw{u:dw}{w:d2}{rd:ez}{x:dY}{l:f1}{q:E V}{z:Array dp}{aq:Nat}{v:cT}(b:nw u l (q.drop aq)=B v)(h:j3 rd x z q):∃p,(part l z aq).run u w=.ok p w/\fM rd x p v:=by
 unfold nw at b;split at b;rotate_left;cases b;rename_i i j k hi;split at b
 .rename_i g;split at b
  .rename_i aU;cases b;have y:(isAgg l).run u w=.ok T w:=by unfold gc at g;rw[k]at g;cases i<;>simp_all[isAgg,run_underlying k]
   refine⟨.agg<|z.extract aq<|aq+j.size,by simp[part,y,sizeOf,typeInfo,hi],_,rfl,?_,λm o ad=>?_⟩
   .rw[hO,Array.size_extract,h.1];rw[my]at aU⊢;omega
   .rw[jd]at ad;split at ad
    .rename_i aw;rw[j2]at ad;have⟨p,G,t⟩:=h.2 _ o ad;refine⟨p,?_,t⟩;rw[Cu,dE]
     .exact G
     .rw[my]at aU;have:=h.1;omega
    .cases ad
  .cases b
 .rename_i g;split at b
  .rename_i a C A;cases b;have y:(isAgg l).run u w=.ok Z w:=by unfold gc at g;rw[k]at g;cases i<;>simp_all[isAgg,run_underlying k]
   have d:q[aq]?=B a:=by have:=congrArg (λs:E V=>s[0]?) A;simpa[j2]using this
   have⟨p,G,t⟩:=h.2 aq a d;exact⟨p,by simp[part,y,G],t⟩
  .cases b
def aqF{u:dw}{y:dy}{q:cP}{v:cT}{i:f1}{a:hp}{g:Nat}{b:E V}{eU:Array Field}{f:Field}(cK:y.op=.field i a g)(d:dZ q a=B (.agg b))(aA:u.underlying i=B (.struct eU))(m:eU[g]?=B f)(h:nw u f.type (b.drop f.offset)=B v):iH u y q v:=by intro x rd ak w o;have⟨s,G,j⟩:=o.op a _ hD d;have⟨p,k,l⟩:=aqw (w:=w) h j;exact⟨p,by simp[execOp,cK,G,Instr.field,run_underlying aA,m,asAgg,k],l⟩
def s9(u:dw)(q:cP):Op->X cT
 |.move a=>dZ q a
 |.assign a=>dZ q a
 |.pick c a o=>match dZ q c with
  |some (.c (.cY (.bool T)))=>dZ q a
  |some (.c (.cY (.bool Z)))=>dZ q o
  |_=>M
 |.binOp op b a o _=>match dZ q a,dZ q o with
  |some t,B l=>RG u op b t l
  |_,_=>M
 |.unOp op _ a=>match dZ q a with
  |some t=>Uw op t
  |none=>M
 |.convert b p a=>match dZ q a,u.underlying b,u.underlying p with
  |some (.c (.cY (.int g n))),B (.int m),B (.int i)=>if m=g then B (int i<|i.wrap n)else M
  |_,_,_=>M
 |.load b a=>match dZ q a with
  |some z=>match qp q z with
   |some d=>nw u b d
   |none=>M
  |none=>M
 |.fieldAddr b a g=>match dZ q a,Sd u b g with
  |some z,B n=>shift n z
  |_,_=>M
 |.indexAddr b a o=>match dZ q a,dZ q o,u.underlying b with
  |some z,B (.c (.cY (.int _ j))),B (.array A e)=>match u.info? e with
   |some k=>if decide (0<=j/\j<A)then shift (j.toNat*k.size) z else M
   |none=>M
  |_,_,_=>M
 |.nilCheck a=>match dZ q a with
  |some v=>if(qp q v).isSome then B v else M
  |none=>M
 |.call c=>RK u q c
 |.extract a g=>match dZ q a with
  |some (.eu s)=>match s[g]? with
   |some (T,d)=>B<|.agg d
   |some (Z,an::_)=>B<|.c an
   |_=>M
  |_=>M
 |.build b jF=>RI u q b jF.toList
 |.field b a g=>match dZ q a,u.underlying b with
  |some (.agg d),B (.struct eU)=>match eU[g]? with
   |some f=>nw u f.type<|d.drop f.offset
   |none=>M
  |_,_=>M
 |_=>M
theorem Ca{u:dw}{y:dy}{q:cP}{v:cT}(h:s9 u q y.op=B v):iH u y q v:=by
 unfold s9 at h;split at h
 next a cK=>exact adX cU h
 next a cK=>exact adX cU h
 .rename_i c a o cK;split at h
  next i=>exact adY T cK i h
  next i=>exact adY Z cK i h
  .cases h
 .rename_i op b a o P cK;split at h
  next t l d ad=>exact ajZ cK d ad h
  .cases h
 .rename_i op b a cK;split at h
  next t d=>exact aqO cK d h
  .cases h
 .rename_i b P a cK;split at h
  .rename_i g n S N d G x;split at h
   next af=>subst af;cases h;exact aqE N n cK d G x
   .cases h
  .cases h
 .rename_i b a cK;split at h
  .rename_i z d;split at h
   next k C=>exact adW cK d C h
   .cases h
  .cases h
 .rename_i b a g cK;split at h
  next z n d cR=>exact aqG cK d cR h
  .cases h
 .rename_i b a o cK;split at h
  .rename_i z g j A e d ad aA;split at h
   .rename_i K Q;split at h
    next hi=>have m:=f8 hi;exact adV A K.size j _ cK d ad aA cU m.1 m.2 rfl h
    .cases h
   .cases h
  .cases h
 .rename_i a cK;split at h
  .rename_i p d;split at h
   next i=>cases h;exact aqM cK d i
   .cases h
  .cases h
 next c cK=>exact aj8 cK h
 .rename_i a g cK;split at h
  .rename_i s d;split at h
   next k af=>cases h;exact adU s _ cK d af dh
   next an aa af=>cases h;exact adU s _ cK d af dh
   .cases h
  .cases h
 next b jF cK=>exact aqD cK h
 .rename_i b a g cK;split at h
  .rename_i k eU d aA;split at h
   next f D=>exact aqF cK d aA D h
   .cases h
  .cases h
 .cases h
def eD.map_id(r:eD):r.map (λo=>o)=r:=by cases r<;>simp[eD.map]
def eD.qW(r:eD):r.eY (λ_=>T)=T:=by cases r<;>simp[eD.eY]
variable{K:fb}{x ai:dY}{w aE:d2}{h aF:fK}
def nQ.aeQ(g:nQ K x w h)(d0:Nat)(z:Nat->Bool)(C:∀i,i≠d0->ai.dn i=x.dn i/\ai.dM i=x.dM i)(Y:∀i,z i=T->ai.dn i=x.dn i/\ai.dM i=x.dM i)
  (cN:∀i,i≠d0->cO aF i=cO h i)(ag:∀i r,i≠d0->cO h i=B r->r.eY (V.fn z)=T)
  (af:fL w (λl y=>∃r,cO h d0=B r/\er x d0 r l y) aE)
  (aa:∀r l y,cO aF d0=B r->er ai d0 r l y->(∃eM,cO h d0=B eM/\er x d0 eM l y)\/w.heap.size<=l)
  (ad:(fd K x h w).gU (fd K ai aF aE)->∀r,cO aF d0=B r->iv (fd K ai aF aE) ai aE d0 r)
  (ab:1000000<=d0->ai.dn d0=x.dn d0/\∀q,cO aF d0=B (.box q)->∃s,cO h d0=B (.box s))
  (ae:∀r,cO aF d0=B r->r.kr=Z->∀l y,er ai d0 r l y->K.r6.heap.size<=l\/K.may l y):nQ K ai aE aF/\(fd K x h w).gU (fd K ai aF aE):=by
 have ax:∀i,(i==d0)=Z->i≠d0:=λi h=>qe
 have m:∀i,(i==d0)=T->i=d0:=λi h=>qe
 have N:fL w (λl y=>∃i r,(i==d0)=T/\cO h i=B r/\er x i r l y) aE:=af.kN λl y ⟨r,G,b⟩=>⟨d0,r,dh,G,b⟩
 have D:∀i r l y,(i==d0)=T->cO aF i=B r->er ai i r l y->(∃e eM,(e==d0)=T/\cO h e=B eM/\er x e eM l y)\/w.heap.size<=l:=by
  intro i r l y G b k;have:=m i G;subst this;rcases aa r l y b k with⟨eM,t,Q⟩|t
  .exact .inl ⟨i,eM,dh,t,Q⟩
  .exact .inr t
 have u:=ui (K:=K) (x:=x) (ai:=ai) (w:=w) (aE:=aE) (h:=h) (aF:=aF) g (·==d0) (λi r G _=>C i<|ax i G) (λi j G b=>⟨j,λo=>o,by rw[<-cN i (ax i G)];exact b,j.map_id.symm⟩) N D;refine⟨g.step (ai:=ai) (aE:=aE) (aF:=aF) (·==d0) (λo=>o) (V.fn z) (λi r G _=>C i<|ax i G) (λi j G b=>?_) N D ?_ (λp a d S=>S.sR u z Y d) ?_ ?_ ?_,u⟩
 .have k:cO h i=B j:=by rw[<-cN i (ax i G)];exact b
  exact⟨j,k,j.map_id.symm,ag i j (ax i G) k⟩
 .intro i P r j l y G b aR;exact absurd ((m i G).trans (m P b).symm) aR
 .intro i r G b;have:=m i G;subst this;exact ad u r b
 .intro i q G A b;have:=m i G;subst this;have⟨aC,au⟩:=ab A;have⟨s,k⟩:=au q b;rw[aC];exact g.rL i s A k
 .intro i r G b;have:=m i G;subst this;exact ae r b
variable{n:Nat}{t:Act}{q:cP}
theorem nQ.ext{h:fK}(g:nQ K x w h)(m:Ext w aE):nQ K x aE h/\(fd K x h w).gU (fd K x h aE):=by have af:fL w (λl y=>∃i r,Z=T/\cO h i=B r/\er x i r l y) aE:=(fL.rS m).kN cU;have j:=ui (K:=K) (x:=x) (ai:=x) (w:=w) (aE:=aE) (h:=h) (aF:=h) g (λ_=>Z) cU (λi b _ d=>⟨b,λo=>o,d,b.map_id.symm⟩) af cU;exact⟨g.step (ai:=x) (aE:=aE) (aF:=h) (λ_=>Z) (λo=>o) (λ_=>T) cU (λi b _ d=>⟨b,d,b.map_id.symm,b.qW⟩) af cU cU (λp a _ k=>k.mono j) cU cU cU,j⟩
theorem nQ.arO{h:fK}(g:nQ K x w h):XR w (fd K x h aE) aE:=by intro l y p d b;refine TR (ai:=x) (aF:=h) g (b:=λ_ _=>False) cU l y p dd ?_ b;rintro⟨i,r,G,a⟩;have:=(g.gg i r G).lt a;omega
def gW.ext(h:gW K x n t w q)(b:Ext w aE):gW K x n t aE q:=let⟨g,d⟩:=h.eV.ext b;⟨h.defers,h.size,h.oo,g,λi v ab=>let⟨p,G,a⟩:=h.tmps i v ab;⟨p,G,a.mono d⟩⟩
def ov{q:cP}{i:Tmp}{v:cT}{a:Nat}:cO (q.put (B i) v).tmps a=if i=a then B v else cO q.tmps a:=kZ i v q.tmps a
def gW.put(h:gW K x n t w q)(i:X Tmp)(j:∀g,i=B g->g<n){p:dp}{v:cT}(ab:fM (fd K x q.Y w) x p v):gW K x n (t.put i p) w (q.put i v):=by
 cases i with
 |none=>exact h
 |some i=>
  refine⟨h.defers,by simp[Act.put,h.size],h.oo,h.eV,λg a d=>?_⟩;have k:i<2000000:=Ct (j i rfl) h.oo;rw[ov]at d;simp only[Act.put,p3];by_cases ax:i=g
  .subst ax;rw[dE rfl]at d;cases d;exact⟨p,by rw[dE k];simp[h.size,j i rfl],ab⟩
  .rw[dA ax]at d;have⟨an,G,b⟩:=h.tmps g a d;refine⟨an,?_,b⟩;simp only[p3]at G;split at G
   next b=>rw[dE b];simp[ax,G]
   next b=>rw[dA b];exact G
def gW.move(h:gW K x n t w q){aF:fK}(g:nQ K ai aE aF)(l:(fd K x q.Y w).gU (fd K ai aF aE))(z:Nat->Bool)(Y:∀i,z i=T->ai.dn i=x.dn i/\ai.dM i=x.dM i)(ht:E (Nat×cT))(j:∀a v,cO ht a=B v->cO q.tmps a=B v/\v.eY (V.fn z)=T):gW K ai n t aE {tmps:=ht,Y:=aF}:=⟨h.defers,h.size,h.oo,g,λa v ab=>let⟨aC,au⟩:=j a v ab;let⟨p,G,b⟩:=h.tmps a v aC;⟨p,G,b.t5 (λm o d k=>k.sR l z Y d) au⟩⟩
def jB(n:Nat)(y:dy):Bool:=match y.dst with
 |some i=>decide (i<n)
 |none=>T
def nG{n:Nat}{y:dy}(h:jB n y=T):∀a,y.dst=B a->a<n:=by intro a ax;simpa[jB,ax]using h
def hF(ops:Array dy)(y:dy)(q:cP):X Bool:=match y.guard with
 |none=>B T
 |some (m,d)=>match ops[m]? with
  |some b=>match b.dst with
   |some a=>match(if a<2000000 then cO q.tmps a else M)with
    |some (.c (.cY (.bool l)))=>B<|l==d
    |some (.eu [])=>B Z
    |_=>M
   |none=>M
  |none=>M
def Mu{ops:Array dy}{y:dy}{q:cP}{l:Bool}{t:Act}(h:hF ops y q=B l)(i:∀a v,a<2000000->cO q.tmps a=B v->∃p rd x,t.tmps[a]?=B p/\fM rd x p v):xF y (yielded ops t.tmps)=l:=by
 have ax:∀a v,(if a<2000000 then cO q.tmps a else M)=B v->∃p rd x,t.tmps[a]?=B p/\fM rd x p v:=by
  intro a v h;split at h
  next b=>exact i a v b h
  .cases h
 unfold hF at h;unfold xF;cases ar:y.guard with
 |none=>rw[ar]at h;simpa using h
 |some z=>
  have⟨m,s⟩:=z;rw[ar]at h;simp only at h⊢;split at h
  .rename_i k g;split at h
   .rename_i a d;split at h
    next j cN=>have⟨p,rd,x,G,b⟩:=ax a _ cN;have:=hw b;subst this;simp only[yielded,g,cI,d,G];simpa using h
    next cN=>have⟨p,rd,x,G,b⟩:=ax a _ cN;simp only[fM]at b;obtain⟨o,rfl,_⟩:=b;simp only[yielded,g,cI,d,G];simpa using h
    .cases h
   .cases h
  .cases h
def QT(K:fb)(n:Nat)(ah:fE->cP->Prop)(e:fE)(t:Act)(w:d2):Prop:=∃q,R K n t w q/\ah e q
def ht(u:dw)(K:fb)(n:Nat)(c:k7)(q:cP)(ah:fE->cP->Prop):Prop:=∀t w,R K n t w q->c.wp u (QT K n ah) t w
def wL(u:dw)(K:fb)(n:Nat)(ops:Array dy)(s:E dy)(q:cP)(ah:fE->cP->Prop):Prop:=∀t w,R K n t w q->wpList u ops (QT K n ah) s t w
def km(u:dw)(K:fb)(n:Nat)(ops:Array dy)(y:dy)(q ao:cP):Prop:=∀t w,R K n t w q->∀(a:Act->d2->Prop) (ah:fE->Act->d2->Prop),(∀b aE,R K n b aE ao->a b aE)->if xF y (yielded ops t.tmps)then y.wp u t w a ah else a (t.put y.dst undef) w
variable{u:dw}{ops:Array dy}{s:E dy}{y:dy}{ao:cP}{ah:fE->cP->Prop}
def QY(h:ah .normal q):wL u K n ops [] q ah:=λ_ _ r=>⟨q,r,h⟩
def QZ(h:km u K n ops y q ao)(ax:wL u K n ops s ao ah):wL u K n ops (y::s) q ah:=by
 intro t w r;refine wpList_step λb d=>?_
 exact h t w r b _ (λa aE g=>d a aE<|ax a aE g)
theorem nj(g:hF ops y q=B T)(h:∀x t w,gW K x n t w q->∀(a:Act->d2->Prop) (ah:fE->Act->d2->Prop),(∀b aE,R K n b aE ao->a b aE)->y.wp u t w a ah):km u K n ops y q ao:=by intro t w ⟨x,r⟩ a ah d;have i:=Mu (t:=t) g (λj v ax ab=>let⟨p,G,k⟩:=r.kM.tmps j v ax ab;ef);rw[dE i];exact h x t w r a ah d
theorem XO(i:hF ops y q=B Z)(g:jB n y=T):km u K n ops y q (q.put y.dst (.eu [])):=by intro t w ⟨x,r⟩ k ah b;have o:=Mu (t:=t) i (λj v ax ab=>let⟨p,G,l⟩:=r.kM.tmps j v ax ab;ef);rw[dA cU];exact b _ _ ⟨x,r.put y.dst (nG g) ⟨#[],rfl,rfl,λm a d=>by simp at d⟩⟩
def jP(u:dw)(y:dy)(q:cP)(v:cT):Prop:=∀x rd t w,lJ x rd t w q y->mSafe u (λp aE=>∀a,rd.gU a->XR w a aE->fM a x p v) y t w
def iH.jC{v:cT}(h:iH u y q v):jP u y q v:=by intro x rd t w ab;have⟨p,G,a⟩:=h x rd t w ab;unfold mSafe;rw[G];exact⟨Ext.refl w,λd b _=>a.mono b⟩
def AT(v:cT)(g:hF ops y q=B T)(d:jB n y=T)(Y:jP u y q v):km u K n ops y q (q.put y.dst v):=by
 refine nj g λx t w r i ah b=>?_
 refine(Y x _ t w<|r.kM.o y).wp λp aE a aA=>?_
 exact b _ _ ⟨x,(r.ext a).put y.dst (nG d)<|aA _ (r.eV.ext a).2 r.eV.arO⟩
def cP.sX(q:cP)(i:Nat)(gQ:X Nat):Bool:=(cO q.Y i).isNone&&q.tmps.all (λz=>B z.1==gQ||z.2.eY (V.fn (·!=i)))&&q.Y.all λz=>z.2.eY (V.fn (·!=i))
def vP{q:cP}{i:Nat}{gQ:X Nat}(d:q.sX i gQ=T):cO q.Y i=M/\(∀b v,cO q.tmps b=B v->gQ≠B b->v.eY (V.fn (·!=i))=T)/\∀e r,cO q.Y e=B r->r.eY (V.fn (·!=i))=T:=by
 simp only[cP.sX,fz,zz]at d;have⟨⟨g,j⟩,k⟩:=d;refine⟨g,λb v cN ax=>?_,λe l cN=>fp.1 k _ (iM cN)⟩;have a:=fp.1 j _ (iM cN);simp only[lc,beq_iff_eq]at a;rcases a with a|a
 .exact absurd a.symm ax
 .exact a
def dY.mS(x:dY)(i:Nat)(z:Nat×Nat):dY:={x with dn:=λe=>if e=i then z else x.dn e}
def dY.iP(x:dY)(i:Nat)(v:dp×dp)(z:Nat×Nat):dY:={dn:=λe=>if e=i then z else x.dn e,dM:=λe=>if e=i then v else x.dM e}
def nh(q:cP)(i:Nat)(gQ:X Nat):Prop:=cO q.Y i=M/\(∀a v,cO q.tmps a=B v->gQ≠B a->v.eY (V.fn (·!=i))=T)/\∀e r,cO q.Y e=B r->r.eY (V.fn (·!=i))=T
theorem gW.add(h:gW K x n t w q){i:Nat}(o:i<1000000)(j:nh q i M){ai:dY}{aE:d2}{r:eD}(k:∀e,e≠i->ai.dn e=x.dn e/\ai.dM e=x.dM e)(d:Ext w aE)(s:∀l y,er ai i r l y->w.heap.size<=l)
  (aU:(fd K x q.Y w).gU (fd K ai (hB i r q.Y) aE)->iv (fd K ai (hB i r q.Y) aE) ai aE i r):gW K ai n t aE (q.f3 i r)/\(fd K x q.Y w).gU (fd K ai (hB i r q.Y) aE):=by
 have⟨g,aH⟩:=h.eV.aeQ (ai:=ai) (aE:=aE) (aF:=hB i r q.Y) i (·!=i) k cU (λe p=>by rw[kZ,dA dd]) (λe a _ b=>j.2.2 e a b) ((fL.rS d).kN cU)
  (λa l y G b=>by rw[kZ,dE rfl]at G;cases G;exact .inr ef) (λaH a G=>ag1) dd
  (λa G _ l y b=>by rw[kZ,dE rfl]at G;cases G;exact .inl<|mY h.eV.gJ.size ef)
 exact⟨h.move g aH (·!=i) cU q.tmps λm v ab=>⟨ab,j.2.1 m v ab dh⟩,aH⟩
def gW.y3(h:gW K x n t w q)(a:Tmp):gW K x n t w {q with tmps:=pS q.tmps a}:=
 ⟨h.defers,h.size,h.oo,h.eV,λp v ab=>h.tmps p v (by
   rw[t6]at ab;split at ab
   .cases ab
   .exact ab)⟩
def cP.w8(q:cP)(i:Nat)(a:E V):cP:=(cP.f3 q i (.box a)).put (B i) (.c (.box i 0))
def nh.drop{i:Nat}{b:Tmp}(a:nh q i (B b)):nh {q with tmps:=pS q.tmps b} i M:=by
 refine⟨a.1,λp v ab _=>?_,a.2.2⟩;simp only[t6]at ab;split at ab
 .cases ab
 next aR=>exact a.2.1 p v ab λh=>aR (mg h).symm
theorem vU(q:cP)(a:Tmp)(v:cT)(g:Nat):cO (cP.put {q with tmps:=pS q.tmps a} (B a) v).tmps g=cO (q.put (B a) v).tmps g:=by
 rw[ov,ov];split
 .rfl
 next aR=>simp only[t6];rw[dA ef]
theorem gW.jU{q ao:cP}(h:gW K x n t w q)(G:∀g,cO ao.tmps g=cO q.tmps g)(a:ao.Y=q.Y):gW K x n t w ao:=by have⟨ht,H⟩:=ao;simp only at a;subst a;exact⟨h.defers,h.size,h.oo,h.eV,λb v ab=>h.tmps b v cU⟩
theorem gW.w8(h:gW K x n t w q){i:Nat}(P:i<n)(z:i<1000000)(A:nh q i (B i)){j:Array dp}{a:E V}(e:f1)(ab:j3 (fd K x q.Y w) x j a)(N:a.all (V.fn (·!=i))=T):
  R K n (t.put (B i)<|.pointer<|B ⟨w.heap.size,0,M⟩) (w.alloc<|.cells j e) (q.w8 i a):=by
 have dI:=h.y3 i;have b:∀e,e≠i->(x.mS i (w.heap.size,0)).dn e=x.dn e/\(x.mS i (w.heap.size,0)).dM e=x.dM e:=λe b=>by simp[dY.mS,b]
 have d:(x.mS i (w.heap.size,0)).dn i=(w.heap.size,0):=by simp[dY.mS]
 have⟨C,k⟩:=dI.add (ai:=x.mS i (w.heap.size,0)) (aE:=w.alloc<|.cells j e) (r:=.box a) z A.drop b (Ext.alloc w _) (λl y u=>by
  obtain⟨rfl,_⟩:=u;rw[d];exact jq _) (λk=>by
  intro m o ad;have⟨p,G,s⟩:=ab.2 m o ad;rw[d];refine⟨p,?_,?_,s.sR k (·!=i) cU ef⟩
  .simp only[gx];rwa[World.cell?_alloc_at _ _ _ _ rfl]
  .simp only[sg,heap_alloc_new];simp)
 have D:=C.put (B i) cU (p:=.pointer<|B ⟨w.heap.size,0,M⟩) (v:=.c<|.box i 0) (by simp only[fM,fA,ea,d]);exact⟨_,D.jU (λg=>(vU (q.f3 i<|.box a) i _ g).symm) rfl⟩
def XF{g:f1}{a:hp}{v:cT}{b:E V}(i:Nat)(cK:y.op=.box g a)(s:y.dst=B i)(A:hF ops y q=B T)(o:i<n)(p:i<1000000)(d:dZ q a=B v)(m:cellsOf v=B b)(z:nh q i (B i))(l:b.all (V.fn (·!=i))=T):km u K n ops y q (q.w8 i b):=by
 refine nj A λx t w r C ah k=>?_
 have j:=r.w8 o p z g (B4 (r.kM.dZ d) m) l;unfold ln;simp only[execOp,cK,Instr.box,newVar,newRow,newObj,g3,hM,mZ,gn,ly,s];exact k _ _ j
def XC{b:f1}{an:dp}(i:Nat)(a:E V)(cK:y.op=.alloc b)(z:y.dst=B i)(C:hF ops y q=B T)(l:i<n)(s:i<1000000)(N:(u.info? b).bind (·.zero)=B an)(d:an.cells.toList.map V.cY=a)(A:nh q i (B i)):km u K n ops y q (q.w8 i a):=by
 refine nj C λx t w r D ah k=>?_
 have⟨j,hi,N⟩:=jc.1 N;have G:j3 (fd K x q.Y w) x an.cells a:=by subst d;refine⟨dh,λm o ad=>?_⟩;rw[gy]at ad;obtain⟨p,aA,rfl⟩:=gG.1 ad;exact⟨p,Ll,.cY p⟩
 have g:=r.w8 l s A b G (by subst d;simp[V.fn,V.hZ]);unfold ln;simp only[execOp,cK,Instr.alloc,zeroValue,typeInfo,program,hi,N,newVar,newRow,newObj,g3,hM,mZ,gn,ly,z];exact k _ _ g
def lC(a:E V)(aq:Nat)(b:E V):E V:=a.take aq++b++a.drop (aq+F b)
def G2{a b:E V}{aq:Nat}(h:aq+F b<=F a):F (lC a aq b)=F a:=by simp[lC];omega
def Ns{b a:E V}{aq:Nat}(h:aq+F a<=F b)(m:Nat):(lC b aq a)[m]?=if aq<=m/\m<aq+F a then a[m-aq]? else b[m]?:=by
 unfold lC;rw[iu,p7];simp only[hO,jw (by omega:aq<=F b)];by_cases G:m<aq
 .rw[dE G,jd,dE G,dA I]
 .rw[dA G,p7];by_cases d:m-aq<F a
  .rw[dE d,dE I]
  .rw[dA d,j2,dA I];congr 1;omega
theorem gW.fo(h:gW K x n t w q){i:Nat}{eM r:eD}(cN:cO q.Y i=B eM)(p:∀l y,er x i r l y->er x i eM l y)(af:fL w (er x i eM) aE)
  (k:∀b,r=.box b->∃d,eM=.box d)(s:r.kr=Z->eM.kr=Z)(aU:(fd K x q.Y w).gU (fd K x (hB i r q.Y) aE)->iv (fd K x (hB i r q.Y) aE) x aE i r):gW K x n t aE (q.f3 i r)/\(fd K x q.Y w).gU (fd K x (hB i r q.Y) aE):=by
 have⟨g,aH⟩:=h.eV.aeQ (ai:=x) (aE:=aE) (aF:=hB i r q.Y) i (λ_=>T) cU cU (λe o=>by rw[kZ,dA dd]) (λe a _ _=>by cases a<;>simp[eD.eY,V.B9]) cU
  (λa l y G j=>by rw[kZ,dE rfl]at G;cases G;exact .inl cU) (λaH a G=>ag1)
  (λ_=>⟨rfl,λb G=>by rw[kZ,dE rfl]at G;cases G;obtain⟨d,rfl⟩:=k b rfl;exact cU⟩)
  (λa G m l y j=>by rw[kZ,dE rfl]at G;cases G;exact h.eV.iA i eM cN cU l y cU)
 exact⟨h.move g aH (λ_=>T) cU q.tmps λu v ab=>⟨ab,by cases v<;>simp[cT.eY,V.B9]⟩,aH⟩
theorem gW.asL(h:gW K x n t w q){i aq:Nat}{d b:E V}(cN:cO q.Y i=B (.box d))(aU:aq+F b<=F d)(af:fL w (λl y=>l=(x.dn i).1/\(x.dn i).2+aq<=y/\y<(x.dn i).2+aq+F b) aE)
  (u:(fd K x q.Y w).gU (fd K x (hB i (.box<|lC d aq b) q.Y) aE)->ZF (fd K x (hB i (.box<|lC d aq b) q.Y) aE) x aE ((x.dn i).1,(x.dn i).2+aq) b):gW K x n t aE (q.f3 i<|.box<|lC d aq b)/\(fd K x q.Y w).gU (fd K x (hB i (.box<|lC d aq b) q.Y) aE):=by
 refine h.fo (r:=.box<|lC d aq b) cN (λl y a=>?_) (af.kN λl y a=>⟨a.1,I,I⟩) cU (λC=>lL) λs=>?_
 .have⟨G,j,k⟩:=a;rw[G2 aU]at k;exact⟨G,j,k⟩
 .intro m o ad;rw[Ns aU]at ad;by_cases aw:aq<=m/\m<aq+F b
  .rw[dE aw]at ad;have⟨p,G,j,k⟩:=u s _ o ad;simp only[(dd:(x.dn i).2+aq+(m-aq)=(x.dn i).2+m)]at G j;exact⟨p,G,j,k⟩
  .rw[dA aw]at ad;have⟨p,G,j,k⟩:=h.eV.gg i _ cN m o ad;exact⟨p,af.cell G λg=>I,by rw[af.aaq (rk w _ G)];exact j,k.mono s⟩
def gW.store(h:gW K x n t w q){i aq:Nat}{d b:E V}(cN:cO q.Y i=B (.box d))(aU:aq+F b<=F d){a:Array dp}(ab:j3 (fd K x q.Y w) x a b):
  gW K x n t (w.setCells (x.dn i).1 ((x.dn i).2+aq) a.toList) (q.f3 i<|.box<|lC d aq b):=by
 have aP:F a.toList=F b:=by simpa using ab.1
 have af:=fL.setCells (x.dn i).1 a.toList ((x.dn i).2+aq) w;rw[aP]at af;refine(h.asL cN aU af λl m o ad=>?_).1;have⟨p,G,k⟩:=ab.2 m o ad;have aw:=(ie.1 ad).1;have⟨u,aI,aM,_⟩:=h.eV.gg i _ cN (aq+m) _ (e6 I);rw[<-lH]at aI aM;refine⟨p,?_,ahk,k.mono l⟩;simp only;have g:a.toList[m]?=B p:=wF;have s:∀j,j<F a.toList->(w.cell? ⟨(x.dn i).1,(x.dn i).2+aq+j,M⟩).isSome=T:=λj hi=>by have⟨y,aC,_⟩:=h.eV.gg i _ cN (aq+j) _ (e6 I);rw[<-lH]at aC;rw[aC];rfl
 rw[UK (x.dn i).1 a.toList ((x.dn i).2+aq) w s m I];rwa[e6 I]at g
def V.one:V->Bool
 |.cY (.agg _)=>Z
 |.cY (.tuple _)=>Z
 |.any=>Z
 |_=>T
theorem adu{rd:ez}{x:dY}{p:dp}{a:V}(h:fA rd x p a)(G:a.one=T):p.oneCell'=T:=by
 cases a<;>simp only[fA,ea]at h
 case cY v=>cases h;cases p<;>simp_all[V.one,Value.oneCell']
 case d_=>cases h.1<;>rfl
 case e1=>cases h;rfl
 case box=>subst h;rfl
 case dk=>obtain⟨G,⟨t,n,c,b⟩|⟨r,b⟩⟩:=h<;>(rw[G,b];rfl)
 case gQ=>obtain⟨_,b|⟨t,n,b⟩⟩:=h<;>(rw[b];rfl)
 case hV=>obtain⟨_,_,_,G⟩|⟨_,G⟩:=h.pq<;>(rw[G];rfl)
 case row=>have⟨t,n,c,G,b,_⟩:=h;rw[b];rfl
 case ip=>have⟨t,c,G,_⟩:=h;rw[G];rfl
 case sub=>have⟨_,_,_,_,_,_,_,b,_⟩:=h;rw[b];rfl
 case hn=>have⟨_,_,_,_,b⟩:=h;rw[b];rfl
 case any=>cases G
 case gf=>have⟨t,G,_⟩:=h;rw[G];rfl
theorem QU{C:f1}{z a:hp}{v:cT}(i aq:Nat)(g b:E V)(cK:y.op=.store C z a)(Q:y.dst=M)(S:hF ops y q=B T)
  (Y:dZ q z=B (.c<|.box i aq))(d:dZ q a=B v)(P:cellsOf v=B b)(cN:q.lj i=B g)(hi:(u.info? C).map (·.size)=B (F b))(G:b.all V.one=T)(ae:aq+F b<=F g):km u K n ops y q (q.f3 i<|.box<|lC g aq b):=by
 refine nj S λx t w r ag ah N=>?_
 have ab:=B4 (r.kM.dZ d) P;have s:=r.kM.dZ Y;simp only[fM,fA,ea]at s;have o:=za cN;have⟨j,aa,ad⟩:=gG.1 hi;have aP:F (t.eval a).cells.toList=F b:=by simpa using ab.1
 have A:=run_storeCells_cells (P:=u) (x.dn i).1 ((x.dn i).2+aq) (t.eval a).cells.toList 0 w
  (λm aw=>by have⟨p,k,_⟩:=r.eV.gg i _ o (aq+m) g[aq+m] cU;rw[<-lH]at k;rw[jO,k];rfl)
  (λm aw=>by have⟨p,_,l,_⟩:=r.eV.gg i _ o (aq+m) g[aq+m] cU;rw[<-lH]at l;rw[jO];exact l)
  (λp aA=>by
    obtain⟨m,aw,rfl⟩:=N_ aA;have⟨D,k,l⟩:=ab.2 m b[m] cU;have:D=(t.eval a).cells.toList[m]:=by
     have:(t.eval a).cells.toList[m]?=B D:=by simpa using k
     rw[e6 aw]at this;exact(mg this).symm
    rw[<-this];exact adu l cU)
 rw[jO]at A;unfold ln;have af:(t.eval a).cells.size=j.size:=by rw[ad];exact ab.1
 simp only[execOp,cK,UL,qB,s,storeVar,sizeOf,typeInfo,program,aa,af,ne_eq,not_true_eq_false,if_false,g3,hM,mZ,gn,A,ly,Q];exact N _ _ ⟨x,r.store o ae ab⟩
def zu(next:cP->Prop)(ah:fE->cP->Prop):fE->cP->Prop
 |.normal,q=>next q
 |e,q=>ah e q
def L0(id:Nat)(ah:fE->cP->Prop):fE->cP->Prop
 |.exit j,q=>if j=id then ah .normal q else ah (.exit j) q
 |e,q=>ah e q
def Yk(h:ah .normal q):ht u K n .skip q ah:=λ_ _ r=>wp_skip ⟨q,r,h⟩
def Yj(h:ah .ret q):ht u K n .ret q ah:=λ_ _ r=>wp_ret ⟨q,r,h⟩
def aiF{id:Nat}(h:ah (.exit id) q):ht u K n (.exit id) q ah:=λ_ _ r=>wp_exit ⟨q,r,h⟩
def Ra{a o:k7}(h:ht u K n a q (zu (λao=>ht u K n o ao ah) ah)):ht u K n (.seq a o) q ah:=λt w r=>
 wp_seq (wp_mono (h t w r) λe d aE ⟨ao,b,C⟩=>by
  cases e<;>simp only[zu]at C<;>simp only[Exit.then]
  case normal=>exact C d aE b
  all_goals exact⟨ao,b,C⟩)
def aiE{id:Nat}{c:k7}(h:ht u K n c q (L0 id ah)):ht u K n (.block id c) q ah:=λt w r=>
 wp_block (wp_mono (h t w r) λe b aE ap=>by
  have⟨ao,a,C⟩:=ap;cases e with
  |exit j=>
   simp only[L0]at C;simp only[Exit.inBlock];by_cases hi:j=id
   .rw[dE hi]at C⊢;exact⟨ao,a,C⟩
   .rw[dA hi]at C⊢;exact⟨ao,a,C⟩
  |_=>exact⟨ao,a,C⟩)
def Yh{c:k7}{a:fE->cP->Prop}(h:ht u K n c q ah)(g:∀e q,ah e q->a e q):ht u K n c q a:=λt w r=>wp_mono (h t w r) λi d j ⟨ao,b,C⟩=>⟨ao,b,g _ _ C⟩
theorem Yg{c:k7}{z:Type}(y:z->cP->Prop)(p:z->Nat)(j:z)(hi:y j q)(h:∀j q,y j q->ht u K n c q (zu (λao=>∃m,y m ao/\p m<p j) ah)):ht u K n (.loop c) q ah:=by
 intro t w r l g x;have key:∀A j q t w,p j=A->y j q->R K n t w q->∃e o aE,QT K n ah e o aE/\Arrives u (lone (l.at t<|.code c:: .inLoop c::g) x w) l g x e o aE:=by
  intro A;induction A using Cf with
  |_ A S=>
   intro j q t w ad aw ay;have⟨e,b,k,⟨i,d,ap⟩,a⟩:=h j q aw t w ay l (.inLoop c::g) x;cases e with
   |normal=>have⟨m,P,aX⟩:=ap;have⟨D,C,aa,Q,N⟩:=S (p m) dd m i b k rfl P d;exact⟨D,C,aa,Q,.of_steps (Steps.trans a<|.one step_inLoop) N⟩
   |exit id=>exact⟨_,b,k,⟨i,d,ap⟩,.pass (x:=.inLoop c) rfl cU a⟩
   |goto s=>exact⟨_,b,k,⟨i,d,ap⟩,.pass (x:=.inLoop c) rfl cU a⟩
   |ret=>exact⟨_,b,k,⟨i,d,ap⟩,.pass (x:=.inLoop c) rfl cU a⟩
   |panic ab=>exact⟨_,b,k,⟨i,d,ap⟩,.pass (x:=.inLoop c) rfl cU a⟩
   |outgrown=>exact⟨_,b,k,⟨i,d,ap⟩,.pass (x:=.inLoop c) rfl cU a⟩
 have⟨e,o,aE,ap,a⟩:=key _ j q t w rfl hi r;exact⟨e,o,aE,ap,.of_steps (.one step_loop) a⟩
def Yf{c:hp}{a o:k7}(l:Bool)(d:dZ q c=B (.c (.cY (.bool l))))(h:ht u K n (if l then a else o) q ah):ht u K n (.cond c a o) q ah:=by intro t w r;have⟨x,ar⟩:=r;have b:t.eval c=.bool l:=hw<|ar.kM.dZ d;exact wp_cond b<|h t w ⟨x,ar⟩
def Yi{id:Nat}{s:E dy}(h:wL u K n s.toArray s q ah):ht u K n (.region id s.toArray Z) q ah:=λt w r=>wp_region_lit (h t w r)
def Uj(u:dw)(n:Nat)(ops:Array dy)(y:dy)(q:cP):X cP:=match hF ops y q with
 |some Z=>if jB n y then B (q.put y.dst<|.eu [])else M
 |some T=>match y.op with
  |.box _ a=>match y.dst,dZ q a with
   |some i,B v=>match cellsOf v with
    |some b=>if decide (i<n)&&decide (i<1000000)&&q.sX i (B i)&&b.all (V.fn (·!=i))then B (q.w8 i b)else M
    |none=>M
   |_,_=>M
  |.alloc g=>match y.dst,(u.info? g).bind (·.zero)with
   |some i,B an=>if decide (i<n)&&decide (i<1000000)&&q.sX i (B i)then B (q.w8 i<|an.cells.toList.map V.cY)else M
   |_,_=>M
  |.store g z a=>match y.dst,dZ q z,dZ q a with
   |none,B (.c (.box i aq)),B v=>match cellsOf v,q.lj i,u.info? g with
    |some d,B b,B j=>if decide (j.size=F d)&&d.all V.one&&decide (aq+F d<=F b)then B (q.f3 i<|.box<|lC b aq d)else M
    |_,_,_=>M
   |_,_,_=>M
  |_=>match s9 u q y.op with
   |some v=>if jB n y then B (q.put y.dst v)else M
   |none=>M
 |none=>M
theorem asa{u:dw}{K:fb}{n:Nat}{ops:Array dy}{y:dy}{q ao:cP}(h:Uj u n ops y q=B ao):km u K n ops y q ao:=by
 unfold Uj at h;split at h
 .rename_i ar;split at h
  next g=>cases h;exact XO ar g
  .cases h
 .rename_i ar;split at h
  .rename_i m a cK;split at h
   .rename_i i v g d;split at h
    .rename_i l k;split at h
     next b=>simp only[fz,i6]at b;cases h;exact XF i cK g ar b.1.1.1 b.1.1.2 d k (vP b.1.2) b.2
     .cases h
    .cases h
   .cases h
  .rename_i m cK;split at h
   .rename_i i an g N;split at h
    next b=>simp only[fz,i6]at b;cases h;exact XC i _ cK g ar b.1.1 b.1.2 N rfl (vP b.2)
    .cases h
   .cases h
  .rename_i m z a cK;split at h
   .rename_i i aq v g Y d;split at h
    .rename_i o l j p k hi;split at h
     next b=>simp only[fz,i6]at b;cases h;exact QU i aq l o cK g ar Y d p k cU b.1.2 b.2
     .cases h
    .cases h
   .cases h
  .split at h
   .rename_i v ab;split at h
    next g=>cases h;exact AT v ar g (Ca ab).jC
    .cases h
   .cases h
 .cases h
inductive oP where
 |code (c:k7)
 |lf (id:Nat)
 |ops (ops:Array dy) (s:List dy)
inductive dT where
 |mk (eU:List oP) (e:fE) (q:cP)
 |iZ
def mE(u:dw)(K:fb)(n:Nat):E oP->(fE->cP->Prop)->fE->cP->Prop
 |[],ah=>ah
 |.code c::eU,ah=>zu (λq=>ht u K n c q<|mE u K n eU ah)<|mE u K n eU ah
 |.lf id::eU,ah=>L0 id<|mE u K n eU ah
 |.ops a s::eU,ah=>zu (λq=>wL u K n a s q<|mE u K n eU ah)<|mE u K n eU ah
def TS(u:dw)(K:fb)(n:Nat)(N:dT)(ah:fE->cP->Prop):Prop:=match N with
 |.mk eU e q=>mE u K n eU ah e q
 |.iZ=>False
def Ho(u:dw)(n:Nat):dT->dT
 |.iZ=>.iZ
 |.mk [] _ _=>.iZ
 |.mk (.code c::eU) e q=>match e with
  |.normal=>match c with
   |.skip=>.mk eU .normal q
   |.seq t l=>.mk (.code t:: .code l::eU) .normal q
   |.block id l=>.mk (.code l:: .lf id::eU) .normal q
   |.exit id=>.mk eU (.exit id) q
   |.ret=>.mk eU .ret q
   |.region _ ops Z=>.mk (.ops ops ops.toList::eU) .normal q
   |_=>.iZ
  |e=>.mk eU e q
 |.mk (.lf id::eU) e q=>match e with
  |.exit j=>if j=id then .mk eU .normal q else .mk eU (.exit j) q
  |e=>.mk eU e q
 |.mk (.ops a s::eU) e q=>match e with
  |.normal=>match s with
   |[]=>.mk eU .normal q
   |y::s=>match Uj u n a y q with
    |some ao=>.mk (.ops a s::eU) .normal ao
    |none=>.iZ
  |e=>.mk eU e q
def go(u:dw)(n:Nat):Nat->dT->dT
 |0,N=>N
 |g+1,N=>go u n g<|Ho u n N
variable{N:dT}
def asb(h:TS u K n (Ho u n N) ah):TS u K n N ah:=by
 cases N with
 |iZ=>exact h
 |mk eU e q=>
  cases eU with
  |nil=>exact h.elim
  |cons f eU=>
   cases f with
   |code c=>
    cases e with
    |normal=>
     simp only[Ho]at h;split at h
     .exact Yk h
     .exact Ra h
     .exact aiE h
     .exact aiF h
     .exact Yj h
     next id ops=>have:=Yi (u:=u) (K:=K) (n:=n) (id:=id) (s:=ops.toList) (ah:=mE u K n eU ah) (q:=q) h;exact this
     .exact h.elim
    |_=>exact h
   |lf id=>
    cases e with
    |exit j=>
     simp only[Ho]at h;simp only[TS,mE,L0];split
     next hi=>rw[dE hi]at h;exact h
     next hi=>rw[dA hi]at h;exact h
    |_=>exact h
   |ops a s=>
    cases e with
    |normal=>
     simp only[Ho]at h;cases s with
     |nil=>exact QY h
     |cons y s=>
      simp only at h;split at h
      next ao aj=>exact QZ (asa aj) h
      .exact h.elim
    |_=>exact h
def cV:∀(g:Nat) {N:dT},TS u K n (go u n g N) ah->TS u K n N ah
 |0,_,h=>h
 |g+1,_,h=>asb<|cV g h
def dT.Hr:dT->X Bool
 |.mk (.code (.cond c _ _)::_) .normal q=>match dZ q c with
  |some (.c (.cY (.bool l)))=>B l
  |_=>M
 |_=>M
def dT.ae6:dT->dT
 |.mk (.code (.cond _ a _)::eU) .normal q=>.mk (.code a::eU) .normal q
 |_=>.iZ
def dT.Z9:dT->dT
 |.mk (.code (.cond _ _ o)::eU) .normal q=>.mk (.code o::eU) .normal q
 |_=>.iZ
theorem ae4{l:Bool}(h:N.Hr=B l):∃c a o eU q,N=.mk (.code (.cond c a o)::eU) .normal q/\dZ q c=B (.c (.cY (.bool l))):=by
 unfold dT.Hr at h;split at h
 .rename_i c a o eU q;split at h
  next b d=>cases h;exact ef
  .cases h
 .cases h
def AY{l:Bool}(h:N.Hr=B l)(b:l=T)(g:TS u K n N.ae6 ah):TS u K n N ah:=by subst b;obtain⟨c,a,o,eU,q,rfl,d⟩:=ae4 h;exact Yf T d g
def Fe{l:Bool}(h:N.Hr=B l)(b:l=Z)(g:TS u K n N.Z9 ah):TS u K n N ah:=by subst b;obtain⟨c,a,o,eU,q,rfl,d⟩:=ae4 h;exact Yf Z d g
def dT.d1:dT->cP
 |.mk _ _ q=>q
 |.iZ=>⟨[],[]⟩
def dT.tf(N:dT)(q:cP):dT:=match N with
 |.mk eU e _=>.mk eU e q
 |.iZ=>.iZ
def dT.pre:dT->Bool
 |.mk (.code _::_) .normal _=>T
 |.mk (.ops _ _::_) .normal _=>T
 |_=>Z
def vg(ao:cP)(hS:∀t w,R K n t w N.d1->R K n t w ao)(a:N.pre=T)(g:TS u K n (N.tf ao) ah):TS u K n N ah:=by
 cases N with
 |iZ=>exact g
 |mk eU e q=>
  cases eU with
  |nil=>simp[dT.pre]at a
  |cons f eU=>
   cases e<;>try(simp[dT.pre]at a;done)
   cases f with
   |code c=>exact λt w r=>g t w<|hS t w r
   |ops b s=>exact λt w r=>g t w<|hS t w r
   |lf id=>simp[dT.pre]at a
def rJ:Nat->V->V
 |0,a=>a
 |q+1,a=>match a with
  |.cY (.slice M 0 0)=>.d_ q 0 0 []
  |.d_ ao _ n ae=>.d_ ao 0 n ae
  |a=>a
def FK{rd:ez}{x:dY}{v:dp}{a:V}(g:Nat)(h:fA rd x v a):fA rd x v (rJ g a):=by
 unfold rJ;split
 .exact h
 .split
  .simp only[fA,ea]at h;cases h;exact⟨.nil _ _ _ dd,trivial⟩
  .exact⟨h.1,trivial⟩
  .exact h
def kp:E Nat->E V->E V
 |g::b,a::ae=>rJ g a::kp b ae
 |_,ae=>ae
def Bk:∀(b:E Nat) (ae:E V),F (kp b ae)=F ae
 |[],_=>rfl
 |_::_,[]=>rfl
 |g::b,a::ae=>by simp[kp,Bk b ae]
theorem tW:∀(b:E Nat) (ae:E V) (m:Nat) (o:V),(kp b ae)[m]?=B o->∃g a,ae[m]?=B a/\o=rJ g a
 |[],ae,m,o,h=>⟨0,o,h,rfl⟩
 |_::_,[],m,o,h=>by simp[kp]at h
 |g::b,a::ae,m,o,h=>by
  cases m with
  |zero=>simp[kp]at h;exact ef
  |succ m=>exact tW b ae m o lB
def ZN{rd:ez}{x:dY}{j:Array dp}{b:E V}(i:E Nat)(h:j3 rd x j b):j3 rd x j (kp i b):=by refine⟨by rw[Bk];exact h.1,λm o ad=>?_⟩;obtain⟨g,a,d,rfl⟩:=tW i b m o ad;have⟨p,G,k⟩:=h.2 m a d;exact⟨p,G,FK g k⟩
def yT(b:E Nat)(a:Bool×E V):Bool×E V:=(a.1,kp b a.2)
def RL{rd:ez}{x:dY}{v:dp}{a:Bool×E V}(i:E Nat)(h:p9 rd x v a):p9 rd x v (yT i a):=by
 unfold p9 yT at*;simp only;split
 next d=>rw[dE d]at h;have⟨j,G,b⟩:=h;exact⟨j,G,ZN i b⟩
 .rename_i d;rw[dA d]at h;have⟨o,G,b⟩:=h;rw[G];cases i with
  |nil=>exact⟨o,rfl,b⟩
  |cons g i=>exact⟨rJ g o,by simp[kp],FK g b⟩
def vq:E Nat->E (Bool×E V)->E (Bool×E V)
 |_,[]=>[]
 |b,a::ae=>yT (b.take<|F a.2) a::vq (b.drop<|F a.2) ae
def ZP:∀(ae:E (Bool×E V)),vq [] ae=ae
 |[]=>rfl
 |a::ae=>by simp[vq,yT,kp,ZP ae]
def ZO:∀(b:E Nat) (ae:E (Bool×E V)),F (vq b ae)=F ae
 |_,[]=>rfl
 |b,a::ae=>by simp[vq,ZO _ ae]
theorem RO:∀(b:E Nat) (ae:E (Bool×E V)) (m:Nat) (o:Bool×E V),(vq b ae)[m]?=B o->∃d a,ae[m]?=B a/\o=yT d a
 |_,[],m,o,h=>by simp[vq]at h
 |b,a::ae,m,o,h=>by
  cases m with
  |zero=>simp[vq]at h;exact ef
  |succ m=>exact RO _ ae m o lB
def tX(b:E Nat):cT->cT
 |.c a=>match b with
  |g::_=>.c<|rJ g a
  |[]=>.c a
 |.agg d=>.agg<|kp b d
 |.eu ae=>.eu<|vq b ae
def tY{rd:ez}{x:dY}{v:dp}{a:cT}(b:E Nat)(h:fM rd x v a):fM rd x v (tX b a):=by
 cases a with
 |c a=>cases b with
  |nil=>exact h
  |cons g b=>exact FK g h
 |agg t=>have⟨j,G,i⟩:=h;exact⟨j,G,ZN b i⟩
 |eu ae=>have⟨j,G,i,k⟩:=h;refine⟨j,G,by rw[ZO];exact i,λm o aw=>?_⟩;obtain⟨s,a,d,rfl⟩:=RO b ae m o aw;have⟨p,l,q⟩:=k m a d;exact⟨p,l,RL s q⟩
def NU:cT->X (Bool×E V)
 |.c a=>B (Z,[a])
 |.agg b=>B (T,b)
 |.eu _=>M
def aeZ{rd:ez}{x:dY}{v:dp}{a:cT}{o:Bool×E V}(h:fM rd x v a)(ad:NU a=B o):p9 rd x v o:=by
 cases a<;>simp only[NU,reduceCtorEq]at ad
 .cases ad;exact⟨_,rfl,h⟩
 .cases ad;exact h
def Ha(u:dw)(q:cP):qy->X (Bool×E V)
 |.tmp a=>match(if a<2000000 then cO q.tmps a else M)with
  |some v=>NU v
  |none=>M
 |.cell t a=>match(if t<2000000 then cO q.tmps t else M)with
  |some z=>match qp q z with
   |some b=>match nw u a b with
    |some v=>NU v
    |none=>M
   |none=>M
  |none=>M
def ll(u:dw)(q:cP):E (E Nat)->E qy->X (E (Bool×E V))
 |_,[]=>B []
 |b,r::d=>match Ha u q r,ll u q b.tail d with
  |some a,B ae=>B<|yT (b.headD []) a::ae
  |_,_=>M
def ma:E (Bool×E V)->X cT
 |[(T,b)]=>B<|.agg b
 |[(Z,[a])]=>B<|.c a
 |[(Z,_)]=>M
 |ae=>B<|.eu ae
def iO(t:Act):qy->Sem dp
 |.tmp a=>pure<|t.tmps.getD a undef
 |.cell l a=>do loadVar a<| <-asAddr (t.tmps.getD l undef)
def arm{u:dw}{x:dY}{rd:ez}{t:Act}{w:d2}{q:cP}(h:wS x rd t w q){r:qy}{a:Bool×E V}(ay:Ha u q r=B a):
  ∃p,(iO t r).run u w=.ok p w/\p9 rd x p a:=by
 cases r with
 |tmp d=>
  simp only[Ha]at ay;split at ay
  .rename_i v ab;split at ab;rotate_left;cases ab;rename_i ax;have⟨p,G,b⟩:=h.tmps d v ax ab;refine⟨p,?_,aeZ b ay⟩;simp[iO,oH,G]
  .cases ay
 |cell l d=>
  simp only[Ha]at ay;split at ay
  .rename_i z Y;split at ay
   .rename_i s k;split at ay
    .rename_i v ab;split at Y;rotate_left;cases Y;rename_i ax;have⟨p,G,b⟩:=h.tmps l z ax Y;obtain⟨o,y,rfl,g⟩:=(h.o default).qp b k;have⟨m,i,j⟩:=NI (u:=u) ab g;refine⟨m,?_,aeZ j ay⟩;simp[iO,oH,G,asAddr,i]
    .cases ay
   .cases ay
  .cases ay
theorem aek{u:dw}{x:dY}{rd:ez}{t:Act}{w:d2}{q:cP}(h:wS x rd t w q):∀(b:E qy) (g:E (E Nat)) (ae:E (Bool×E V)),ll u q g b=B ae->
  ∃P:E dp,(b.mapM<|iO t).run u w=.ok P w/\F P=F ae/\∀(m:Nat) (a:Bool×E V),ae[m]?=B a->∃p,P[m]?=B p/\p9 rd x p a
 |[],g,ae,d=>by cases d;exact cU
 |r::b,g,ae,d=>by
  simp only[ll]at d;split at d
  .rename_i a z G i;cases d;have⟨p,j,k⟩:=arm h G;have⟨P,l,s,y⟩:=aek h b _ z i;refine⟨p::P,by rw[List.mapM_cons];simp[j,l],by simp[s],λm o ad=>?_⟩;cases m with
   |zero=>cases ad;exact⟨p,rfl,RL _ k⟩
   |succ m=>exact y m o ad
  .cases d
def NJ{u:dw}{x:dY}{rd:ez}{t:Act}{w:d2}{q:cP}(h:wS x rd t w q){i:n5}{y:E (E Nat)}{ae:E (Bool×E V)}{r:cT}(d:ll u q y i.results.toList=B ae)(ay:ma ae=B r):
  ∃p,(results i t.tmps).run u w=.ok p w/\fM rd x p r:=by
 have⟨P,G,b,j⟩:=aek h _ y ae d;have C:(i.results.mapM<|iO t).run u w=.ok P.toArray w:=by rw[Array.mapM_eq_mapM_toList];simp[G]
 refine⟨if h:P.toArray.size=1 then P.toArray[0]else .tuple P.toArray,?_,?_⟩
 .unfold results;simp only[g3];refine(congrArg (λan=>Result.andThen an _) C).trans ?_;simp
 .unfold ma at ay;split at ay
  .cases ay;have⟨p,k,s⟩:=j 0 _ rfl;have g:F P=1:=rz;obtain⟨a,rfl⟩:=xB.1 g;cases k;simp;exact s
  .cases ay;have⟨p,k,s⟩:=j 0 _ rfl;have g:F P=1:=rz;obtain⟨a,rfl⟩:=xB.1 g;cases k;simp;have⟨o,z,A⟩:=s;cases z;exact A
  .cases ay
  .rename_i D Q K;cases ay;have g:P.toArray.size≠1:=by
    intro g;have:F ae=1:=by rw[<-b];simpa using g
    obtain⟨a,rfl⟩:=xB.1 this;have⟨l,N⟩:=a;cases l
    .exact K _ rfl
    .exact D _ rfl
   rw[dif_neg g];exact⟨P.toArray,rfl,rz,λm a aw=>by simpa using j m a aw⟩
def lV:Nat->E cT->E (Nat×cT)
 |_,[]=>[]
 |j,a::ae=>(j,a)::lV (j+1) ae
theorem BD:∀(ae:E cT) (j b:Nat) (v:cT),cO (lV j ae) b=B v->j<=b/\ae[b-j]?=B v
 |[],j,b,v,h=>by simp[lV,cO]at h
 |a::ae,j,b,v,h=>by
  simp only[lV,io]at h;split at h
  next ax=>subst ax;cases h;simp
  next ax=>have⟨G,d⟩:=BD ae (j+1) b v h;exact ef
def iv.mono{rd g:ez}(d:rd.gU g){x:dY}{w:d2}{i:Nat}{r:eD}(h:iv rd x w i r):iv g x w i r:=by
 cases r with
 |box j=>exact λm o ad=>let⟨p,G,a,b⟩:=h m o ad;⟨p,G,a,b.mono d⟩
 |row e q n ae=>exact let⟨P,G,a,b⟩:=h;⟨P,G,a,b.mono d⟩
 |fw e q n=>exact h
 |dR L=>exact h
 |g7 ak=>exact ak.mono d h
def H1(x:dY)(h:fK):Prop:=∀i a r b l y,i≠a->cO h i=B r->cO h a=B b->er x i r l y->¬er x a b l y
def WW(x:dY)(n:Nat)(a:Nat->Nat->Prop)(h:fK):Prop:=∀i r,cO h i=B r->r.kr=Z->∀l y,er x i r l y->n<=l\/a l y
def ih(u:dw)(f:gk)(args:E cT)(h:fK)(r:cT)(aF:fK):Prop:=
 ∀(rd:ez) (x:dY) (w:d2) (P:Array dp),(∀l y v,rd l y=B v->w.cell? ⟨l,y,M⟩=B v)->P.size=F args->(∀(j:Nat) (a:cT),args[j]?=B a->∃p,P[j]?=B p/\fM rd x p a)->
  (∀i a,cO h i=B a->iv rd x w i a)->H1 x h->(∀l y,h7 x h l y->rd l y=M)->
  Calls u f P w λe aE=>∃p ai,e=.returned p/\fL w (h7 x h) aE/\(∀i d,1000000<=i->cO aF i=B (.box d)->ai.dn i=x.dn i)/\(∀l y,h7 ai aF l y->h7 x h l y\/w.heap.size<=l)/\H1 ai aF/\WW ai w.heap.size (h7 x h) aF/\
   ∀b,rd.gU b->yF w (h7 x h) b aE (h7 ai aF)->fM b ai p r/\∀i a,cO aF i=B a->iv b ai aE i a
def qS(b:E Nat):eD->eD
 |.box a=>.box<|kp b a
 |r=>r
def s6(h:fK):E (Nat×E Nat)->X fK
 |[]=>B []
 |(i,a)::s=>match cO h i,s6 h s with
  |some r,B aF=>B<|(i,qS a r)::aF
  |_,_=>M
theorem TF{h:fK}:∀(s:E (Nat×E Nat)) {aF:fK},s6 h s=B aF->∀i a,cO aF i=B a->∃r b,cO h i=B r/\a=qS b r
 |[],aF,e,i,a,d=>Xk
 |(d0,b)::s,aF,e,i,a,d=>by
  simp only[s6]at e;split at e
  .rename_i r G aC au;cases e;rw[io]at d;split at d
   next g=>subst g;cases d;exact ef
   .exact TF s au i a d
  .cases e
def Bl(x:dY)(i:Nat)(a:E Nat)(r:eD):er x i (qS a r)=er x i r:=by funext l y;cases r<;>simp[er,qS,Bk]
def RN{rd:ez}{x:dY}{w:d2}{i:Nat}{r:eD}(b:E Nat)(h:iv rd x w i r):iv rd x w i (qS b r):=by
 cases r with
 |box j=>intro m o ad;obtain⟨g,a,d,rfl⟩:=tW b j m o ad;have⟨p,G,k,l⟩:=h m a d;exact⟨p,G,k,FK g l⟩
 |row e q n ae=>exact h
 |fw e q n=>exact h
 |dR L=>exact h
 |g7 ak=>exact h
def Hb(u:dw)(a:n5)(b:E (E Nat))(spec:E (Nat×E Nat))(r:cT)(aF:fK):fE->cP->Prop
 |.normal,q=>(∃ae,ll u q b a.results.toList=B ae/\ma ae=B r)/\s6 q.Y spec=B aF
 |.ret,q=>(∃ae,ll u q b a.results.toList=B ae/\ma ae=B r)/\s6 q.Y spec=B aF
 |_,_=>False
theorem RW{u:dw}{f:gk}{j:n5}{c:k7}{args:E cT}{h aF:fK}{r:cT}(aq:E (E Nat))(spec:E (Nat×E Nat))(n:Nat)(Q:u.funcs[f]?=B j)(ag:j.body=B c)(cR:j.ntmps=n)(cN:decide (F args<=n/\n<=2000000)=T)
  (ax:∀K,TS u K n (.mk [.code c] .normal ⟨lV 0 args,h⟩)<|Hb u j aq spec r aF):ih u f args h r aF:=by
 intro rd x w P aM a_ az aI aG aK;have⟨aQ,aH⟩:=f8 cN
 let K:fb:=⟨w,h7 x h,rd,x.dn,λ_=>M,λl y v ab=>ef⟩;have an:rd.gU (fd K x h w):=by intro l y v ab;unfold fd;rw[dA ef,dE ⟨rk w _ (aM l y v ab),λa=>by rw[aK l y a]at ab;cases ab⟩];exact ab
 have hS:gW K x n {tmps:=P++Cg (j.ntmps-P.size) undef,defers:=[]} w ⟨lV 0 args,h⟩:=by refine⟨rfl,fv,aH,⟨fL.refl _ _,λi a d=>(aI i a d).mono an,λl y a _=>a,aG,λ_ _ _ _=>rfl,λi r aD _ l y Q=>.inr ⟨i,r,aD,Q⟩⟩,λar v ab=>?_⟩;have⟨_,A⟩:=BD args 0 ar v ab;have⟨p,o,D⟩:=az (ar-0) v A;simp only[ti]at o;refine⟨p,?_,D.mono an⟩;have bg:=(l4.1 o).1;rw[p3,dE I];rwa[r_ (l4.1 o).1]
 refine calls_of_wp Q ag (wp_mono (ax K _ w ⟨x,hS⟩) λe S aE ap=>?_);have⟨ao,⟨ai,g⟩,C⟩:=ap;have af:((∃ae,ll u ao aq j.results.toList=B ae/\ma ae=B r)/\s6 ao.Y spec=B aF)->S.defers=[]/\∃v,(results j S.tmps).run u aE=.ok v aE/\∃p ai,Ending.returned v=.returned p/\fL w (h7 x h) aE/\(∀i aa,1000000<=i->cO aF i=B (.box aa)->ai.dn i=x.dn i)/\(∀l y,h7 ai aF l y->h7 x h l y\/w.heap.size<=l)/\H1 ai aF/\WW ai w.heap.size (h7 x h) aF/\
   ∀m,rd.gU m->yF w (h7 x h) m aE (h7 ai aF)->fM m ai p r/\∀i a,cO aF i=B a->iv m ai aE i a:=by
  rintro⟨⟨ae,G,A⟩,o⟩;have⟨p,D,aw⟩:=NJ g.kM G A;have k:=λi a d=>TF spec o i a d
  have al:∀l y,h7 ai aF l y->h7 ai ao.Y l y:=by rintro l y ⟨i,a,aC,au⟩;obtain⟨b,z,aL,rfl⟩:=k i a aC;rw[Bl]at au;exact⟨i,b,aL,au⟩
  refine⟨g.defers,p,D,p,ai,rfl,g.eV.gJ,?_,?_,?_,?_,?_⟩
  .intro i aa s d;have⟨b,z,aL,aT⟩:=k i _ d;cases b with
   |box av=>exact g.eV.rL i av s aL
   |row e q n ae=>cases aT
   |fw e q n=>cases aT
   |dR L=>cases aT
   |g7 ak=>cases aT
  .intro l y d;rcases la l w.heap.size with N|N
   .exact .inl<|g.eV.may l y (al l y d) N
   .exact .inr N
  .intro i ad a aO l y aR d aN t ah;obtain⟨b,z,aL,rfl⟩:=k i a d;obtain⟨aP,aS,aT,rfl⟩:=k ad aO aN;rw[Bl]at t ah;exact g.eV.lR i ad b aP l y aR aL aT t ah
  .intro i a d ag l y t;obtain⟨b,z,aL,rfl⟩:=k i a d;rw[Bl]at t;exact g.eV.iA i b aL (by cases b<;>simp_all[qS,eD.kr]) l y t
  .intro m aJ aj;have am:(fd K ai ao.Y aE).gU m:=by
    intro l y v ab;have aB:=G9 ai ao.Y g.eV.gJ l y v ab;unfold fd at ab;split at ab
    .cases ab
    .rename_i d;split at ab
     .exact aJ l y v ab
     .rename_i aA;refine aj l y v ?_ (λC=>d<|al l y C) aB;rcases la l w.heap.size with s|s
      .exact .inr (Hx λay=>aA ⟨s,ay⟩)
      .exact .inl s
   refine⟨aw.mono am,λi a d=>?_⟩;obtain⟨b,z,aL,rfl⟩:=k i a d;exact RN z<|(g.eV.gg i b aL).mono am
 cases e<;>simp only[mE,Hb]at C<;>simp only[bodyPost]
 case normal=>exact af C
 case ret=>exact af C
def yQ(q:cP):E hp->X (E cT)
 |[]=>B []
 |a::s=>match dZ q a,yQ q s with
  |some v,B r=>B<|v::r
  |_,_=>M
def Zt{q:cP}:∀(s:E hp) (r:E cT),yQ q s=B r->F s=F r/\∀(j:Nat) (a:hp) (v:cT),s[j]?=B a->r[j]?=B v->dZ q a=B v
 |[],r,h=>by cases h;exact⟨rfl,λj z C G=>ET⟩
 |a::s,r,h=>by
  simp only[yQ]at h;split at h
  .rename_i v d ab ay;cases h;have⟨G,b⟩:=Zt s d ay;refine⟨by simp[G],λg z C Y ap=>?_⟩;cases g with
   |zero=>cases Y;cases ap;exact ab
   |succ g=>exact b g z C Y ap
  .cases h
def m3:E (E Nat)->E cT->E cT
 |b::d,a::ae=>tX b a::m3 d ae
 |_,ae=>ae
theorem Bj:∀(b:E (E Nat)) (ae:E cT) (j:Nat) (o:cT),(m3 b ae)[j]?=B o->∃d a,ae[j]?=B a/\o=tX d a
 |[],ae,j,o,h=>⟨[],o,h,by cases o<;>simp[tX,kp,ZP]⟩
 |_::_,[],j,o,h=>by simp[m3]at h
 |d::b,a::ae,j,o,h=>by
  cases j with
  |zero=>simp[m3]at h;exact ef
  |succ j=>exact Bj b ae j o lB
def FL:∀(a:E (E Nat)) (ae:E cT),F (m3 a ae)=F ae
 |[],_=>rfl
 |_::_,[]=>rfl
 |_::a,_::ae=>by simp[m3,FL a ae]
def V.il(a:V):Bool:=a.fn λ_=>Z
theorem nZ{rd:ez}{x ai:dY}(v:dp)(a:V)(d:a.il=T)(h:fA rd x v a):fA rd ai v a:=h.sR (ez.gU.refl _) (λ_=>Z) cU d
def Si:cT->X (gk×E V)
 |.c (.cY (.func (.func f) a o))=>if a.size=0/\o.size=0 then B (f,[])else M
 |.c (.gf f b)=>if f<1000000 then B (f,b)else M
 |_=>M
def ak8{rd:ez}{x:dY}{p:dp}{v:cT}{f:gk}{b:E V}(h:fM rd x p v)(ab:Si v=B (f,b)):∃a:Array dp,p=.func (.func f) #[] a/\j3 rd x a b:=by
 unfold Si at ab;split at ab
 .split at ab
  next d=>cases ab;have:=hw h;subst this;rw[zA d.1,zA d.2];exact⟨#[],rfl,rfl,λm o ad=>Lg⟩
  .cases ab
 .split at ab;rotate_left;cases ab;rename_i aX;cases ab;have⟨a,G,g,i⟩:=h;rw[Oa aX,UM aX]at G;exact⟨a,wF,g,λm o ad=>let⟨p,aC,au⟩:=i m o ad;⟨p,aC,au.hG⟩⟩
 .cases ab
def Sj:cT->X (gk×E V×E V)
 |.c (.cY (.func (.func f) a o))=>if a.size=0/\o.size=0 then B (f,[],[])else M
 |.c (.gf f b)=>B (f%1000000,b.take<|f/1000000,b.drop<|f/1000000)
 |_=>M
def ak7{rd:ez}{x:dY}{p:dp}{v:cT}{f:gk}{i g:E V}(h:fM rd x p v)(ab:Sj v=B (f,i,g)):∃first a:Array dp,p=.func (.func f) first a/\j3 rd x first i/\j3 rd x a g:=by
 unfold Sj at ab;split at ab
 .split at ab
  next d=>cases ab;have:=hw h;subst this;rw[zA d.1,zA d.2];exact⟨#[],#[],rfl,⟨rfl,λm o ad=>Lg⟩,⟨rfl,λm o ad=>Lg⟩⟩
  .cases ab
 .rename_i q l;cases ab;have⟨a,G,b,j⟩:=h;refine⟨_,_,G,⟨QK,λm o ad=>?_⟩,⟨QK,λm o ad=>?_⟩⟩
  .rw[jd]at ad;split at ad
   next aw=>have⟨p,aC,au⟩:=j m o ad;refine⟨p,?_,au.hG⟩;have k:=(l4.1 aC).1;rwa[Cu,dE I,gx]
   .cases ad
  .rw[j2]at ad;have⟨p,aC,au⟩:=j _ o ad;refine⟨p,?_,au.hG⟩;have k:=(l4.1 aC).1;rwa[Cu,dE I]
 .cases ab
def uX(rd:ez)(x:dY)(P:Array dp)(b:E cT):Prop:=P.size=F b/\∀(j:Nat) (a:cT),b[j]?=B a->∃p,P[j]?=B p/\fM rd x p a
def uX.append{rd:ez}{x:dY}{P i:Array dp}{b k:E cT}(h:uX rd x P b)(g:uX rd x i k):uX rd x (P++i) (b++k):=by
 refine⟨by simp[h.1,g.1],λj a d=>?_⟩;by_cases hi:j<F b
 .rw[tj hi]at d;have⟨p,aC,au⟩:=h.2 j a d;exact⟨p,by rw[r_ (by rw[h.1];exact hi)];exact aC,au⟩
 .rw[rc I]at d;have⟨p,aC,au⟩:=g.2 _ a d;refine⟨p,?_,au⟩;rw[HU (by rw[h.1];omega),h.1];exact aC
def uX.abS{rd:ez}{x:dY}{P:Array dp}{b:E V}(h:j3 rd x P b):uX rd x P (b.map cT.c):=by refine⟨by simp[h.1],λj a d=>?_⟩;rw[gy]at d;obtain⟨o,ad,rfl⟩:=gG.1 d;exact h.2 j o ad
def lh(q:cP)(y:dy):X (gk×E cT):=match y.op with
 |.call {callee:=.value d,args:=ae,argTypes:=_}=>match dZ q d,yQ q ae.toList with
  |some g,B i=>match Sj g with
   |some (f,b,a)=>B (f,b.map cT.c++(i++a.map cT.c))
   |none=>M
  |_,_=>M
 |_=>M
def iz(u:dw)(f:gk):Bool:=match u.funcs[f]? with
 |some a=> !(a.name== "runtime.NumGoroutine")&&a.body.isSome
 |none=>Z
theorem vp{u:dw}{q:cP}{y:dy}{f:gk}{i:E cT}(h:lh q y=B (f,i))(b:iz u f=T){x:dY}{rd:ez}{t:Act}{w:d2}(ab:lJ x rd t w q y):
  ∃P:Array dp,P.size=F i/\(∀(j:Nat) (a:cT),i[j]?=B a->∃p,P[j]?=B p/\fM rd x p a)/\(execOp t.eval y).run u w=.ok (.enter f P) w:=by
 unfold lh at h;split at h
 .rename_i o ae ak cK;split at h
  .rename_i aj k D ad;split at h
   .rename_i ai ah ag C;cases h;have⟨cN,N⟩:=Zt _ _ ad;have⟨first,m,G,K,z⟩:=ak7 (ab.op o _ ml D) C;have af:ae.size=F k:=by rw[<-cN];simp
    have aa:uX rd x (ae.map t.eval) k:=by
     refine⟨by simp[af],λj a d=>?_⟩;have hi:j<F k:=(ie.1 d).1;have g:j<F ae.toList:=by rw[cN];exact hi
     have:=N j ae.toList[j] a (e6 g) d;refine⟨t.eval ae.toList[j],?_,ab.op _ _ ?_ this⟩
     .simp only[pz]at g;simp[g]
     .rw[cK];simp only[VK,Call.operands,ul];exact tk _ (fi _)
    have⟨Q,S⟩:=(uX.abS K).append<|aa.append<|uX.abS z;refine⟨first++(ae.map t.eval++m),Q,S,?_⟩
    .unfold iz at b;split at b
     .rename_i l A;simp only[fz,xA,Option.isSome_iff_ne_none]at b;have s:l.body.isNone=Z:=by cases ap:l.body<;>simp_all
      simp only[execOp,cK,resolve,G,Deferred.ofValue,invoke,callFunc,program,A,b.1,s,j0,if_false,g3,hM,mZ,gn,Array.append_assoc]
     .cases b
   .cases h
  .cases h
 .cases h
def rO{x:dY}{l y:Nat}(h:h7 x [] l y):False:=by have⟨i,r,G,_⟩:=h;simp[cO]at G
def aaA{u:dw}{y:dy}{q:cP}{r:cT}{f:gk}{k args:E cT}(z:E (E Nat))(D:lh q y=B (f,k))(C:iz u f=T)(m:m3 z k=args)(ay:r.eY V.il=T)(Y:ih u f args [] r []):jP u y q r:=by
 intro x rd t w s;have⟨P,G,b,A⟩:=vp D C s;have K:=Y rd x w P s.oy (by rw[<-m,FL];exact G) (λj o ad=>by rw[<-m]at ad;obtain⟨S,a,d,rfl⟩:=Bj z k j o ad;have⟨p,aC,au⟩:=b j a d;exact⟨p,aC,tY S au⟩) (λi a d=>u5) (λi ab a ae l y _ d=>u5) (λl y d=>(rO d).elim)
 unfold mSafe;rw[A];refine K.mono λe aE ap=>?_
 obtain⟨p,ai,rfl,af,_,_,_,_,Q⟩:=ap;refine⟨p,rfl,(af.kN λl y a=>(rO a)).ext,λaa N aj=>?_⟩;exact((Q aa N λl y p G _ b=>aj l y p (G.elim id λa=>(rO a).elim) b).1).t5 (λv a d g=>nZ v a d g) ay
def aeg(i aq:Nat):V->V
 |.box e y=>if e=1000000 then .box i (aq+y)else .box e y
 |a=>a
def zp(i aq:Nat):cT->cT
 |.c a=>.c<|aeg i aq a
 |a=>a
def V.xa:V->Bool
 |.box e _=>e==1000000
 |a=>a.il
def cT.xa:cT->Bool
 |.c a=>a.xa
 |a=>a.eY V.il
def ari{rd:ez}{x:dY}{p:dp}{a:cT}{i aq:Nat}(d:a.xa=T)(h:fM rd x p (zp i aq a)):fM rd (x.mS 1000000 ((x.dn i).1,(x.dn i).2+aq)) p a:=by
 cases a with
 |c a=>
  cases a with
  |box e y=>
   have b:e=1000000:=by simpa[cT.xa,V.xa]using d
   subst b;simp only[zp,aeg,if_true,fM,fA,ea]at h;simp only[fM,fA,ea,dY.mS,if_true];rw[h,lH]
  |cY v=>exact nZ (x:=x) (ai:=x.mS 1000000 ((x.dn i).1,(x.dn i).2+aq)) p (.cY v) d h
  |d_ t l c e=>exact nZ (rd:=rd) (x:=x) (ai:=x.mS 1000000 ((x.dn i).1,(x.dn i).2+aq)) p (.d_ t l c e) d h
  |e1 t=>exact nZ (x:=x) (ai:=x.mS 1000000 ((x.dn i).1,(x.dn i).2+aq)) p (.e1 t) d h
  |dk t=>exact nZ (rd:=rd) (x:=x) (ai:=x.mS 1000000 ((x.dn i).1,(x.dn i).2+aq)) p (.dk t) d h
  |row t l=>exact nZ (rd:=rd) (x:=x) (ai:=x.mS 1000000 ((x.dn i).1,(x.dn i).2+aq)) p (.row t l) d h
  |ip t l c=>exact nZ (rd:=rd) (x:=x) (ai:=x.mS 1000000 ((x.dn i).1,(x.dn i).2+aq)) p (.ip t l c) d h
  |sub t l c e=>exact nZ (rd:=rd) (x:=x) (ai:=x.mS 1000000 ((x.dn i).1,(x.dn i).2+aq)) p (.sub t l c e) d h
  |hn t l c e=>exact nZ (rd:=rd) (x:=x) (ai:=x.mS 1000000 ((x.dn i).1,(x.dn i).2+aq)) p (.hn t l c e) d h
  |any=>trivial
  |gf t l=>exact nZ (rd:=rd) (x:=x) (ai:=x.mS 1000000 ((x.dn i).1,(x.dn i).2+aq)) p (.gf t l) d h
  |gQ t=>exact nZ (rd:=rd) (x:=x) (ai:=x.mS 1000000 ((x.dn i).1,(x.dn i).2+aq)) p (.gQ t) d h
  |hV t l c=>exact nZ (rd:=rd) (x:=x) (ai:=x.mS 1000000 ((x.dn i).1,(x.dn i).2+aq)) p (.hV t l c) d h
 |agg j=>exact h.t5 (λv a d g=>nZ v a d g) d
 |eu k=>exact h.t5 (λv a d g=>nZ v a d g) d
def fZ(a:E (Nat×Nat))(e:Nat):Nat:=match a.find? (λz=>z.2==e)with
 |some z=>z.1
 |none=>e
def t7(aF:fK)(S:Nat->Nat):E (Nat×Nat)->fK->fK
 |[],Y=>Y
 |(i,e)::s,Y=>match cO aF e with
  |some a=>(i,a.map<|V.fD S)::t7 aF S s Y
  |none=>t7 aF S s Y
def SS(aF:fK)(S:Nat->Nat)(Y:fK)(i:Nat):∀(g:E (Nat×Nat)),(g.all λz=>(cO aF z.2).isSome)=T->cO (t7 aF S g Y) i=match cO g i with
  |some e=>(cO aF e).map<|eD.map<|V.fD S
  |none=>cO Y i
 |[],_=>rfl
 |(d0,e)::s,b=>by
  simp only[v1,fz]at b;have⟨a,d⟩:=lb.1 b.1;simp only[t7,d,io];split
  .simp[d]
  .exact SS aF S Y i s b.2
def dY.BI(x ai:dY)(a:E (Nat×Nat)):dY where
 dn:=λi=>match cO a i with
  |some e=>ai.dn e
  |none=>x.dn i
 dM:=λi=>match cO a i with
  |some e=>ai.dM e
  |none=>x.dM i
theorem iv.fD{rd d:ez}(b:rd.gU d){x ai:dY}{w:d2}{i:Nat}{r:eD}(f:Nat->Nat)(z:Nat->Bool)(Y:∀i,z i=T->ai.dn (f i)=x.dn i/\ai.dM (f i)=x.dM i)(a:z i=T)(ay:r.eY (V.fn z)=T)(h:iv rd x w i r):iv d ai w (f i) (r.map (V.fD f)):=by
 cases r with
 |box s=>intro m o ad;rw[gy]at ad;obtain⟨g,l,rfl⟩:=gG.1 ad;have⟨p,G,j,k⟩:=h m g l;rw[(Y i a).1];exact⟨p,G,j,k.fD b f z Y<|fp.1 ay g ef⟩
 |row e q n ae=>simp only[eD.map,iv,(Y i a).2];exact(iv.mono b h)
 |fw e q n=>simp only[eD.map,iv,(Y i a).2];exact h
 |dR L=>simp only[eD.map,iv,(Y i a).2];exact h
 |g7 ak=>simp only[eD.map,iv,(Y i a).2];exact ak.mono b h
def ms(a:E (Nat×Nat))(e:Nat):Bool:=cO a (fZ a e)==B e
def vN(q:cP)(aF:fK)(r:cT)(a:E (Nat×Nat))(gQ:X Nat):Bool:=
 (a.all λz=>(cO aF z.2).isSome&&decide (z.1<1000000)&&decide (fZ a z.2=z.1)&&decide (cO a z.1=B z.2)&&(cO q.Y z.1).isNone&&decide (z.2<1000000))&&
 (q.tmps.all λC=>B C.1==gQ||C.2.eY (V.fn λi=>(cO a i).isNone))&&(q.Y.all λC=>C.2.eY (V.fn λi=>(cO a i).isNone))&&
 r.eY (V.fn<|ms a)&&(aF.all λC=>C.1==1000000||C.2.eY (V.fn<|ms a))
def yP:X (Nat×Nat)->E cT->E cT
 |some (i,aq),args=>args.map<|zp i aq
 |none,args=>args
def M6:X (Nat×Nat)->cT->Bool
 |some _,v=>v.xa
 |none,v=>v.eY V.il
def E9(q:cP)(h aF:fK)(g:E (Nat×Nat)):X (Nat×Nat)->Prop
 |some (i,aq)=>∃d a b,cO q.Y i=B (.box d)/\h=[(1000000,.box a)]/\cO aF 1000000=B (.box b)/\a.all V.il=T/\b.all V.il=T/\(d.drop aq).take (F a)=a/\F b=F a/\aq+F a<=F d/\cO g i=M
 |none=>h=[]
def y5(q:cP)(aF:fK):X (Nat×Nat)->fK
 |some (i,aq)=>match cO aF 1000000,cO q.Y i with
  |some (.box b),B (.box a)=>hB i (.box<|lC a aq b) q.Y
  |_,_=>q.Y
 |none=>q.Y
def cP.after(q:cP)(aF:fK)(r:cT)(a:E (Nat×Nat))(b:X (Nat×Nat))(dst:X Tmp):cP:=cP.put {q with Y:=t7 aF (fZ a) a<|y5 q aF b} dst (r.map<|V.fD<|fZ a)
theorem XI{f:gk}{bc args:E cT}{aF:fK}{r:cT}{h:fK}(bm:E (E Nat))(k:E (Nat×Nat))(am:X (Nat×Nat))(b7:hF ops y q=B T)(b0:jB n y=T)(bU:lh q y=B (f,bc))(bd:iz u f=T)
  (a2:m3 bm bc=yP am args)(ca:args.all (M6 am)=T)(aO:E9 q h aF k am)
  (bz:∀z∈k,((((((cO aF z.2).isSome=T/\decide (z.1<1000000)=T)/\decide (fZ k z.2=z.1)=T)/\decide (cO k z.1=B z.2)=T)/\(cO q.Y z.1).isNone=T)/\decide (z.2<1000000)=T))(bA:∀D v,cO q.tmps D=B v->(B D==y.dst||v.eY (V.fn λi=>(cO k i).isNone))=T)(bB:∀i r,cO q.Y i=B r->r.eY (V.fn λi=>(cO k i).isNone)=T)(b8:r.eY (V.fn<|ms k)=T)(b9:∀C∈aF,(C.1==1000000||C.2.eY (V.fn<|ms k))=T)(Y:ih u f args h r aF):km u K n ops y q (q.after aF r k am y.dst):=by
 have bR:(k.all λz=>(cO aF z.2).isSome)=T:=fp.2 λz Y=>(bz z Y).1.1.1.1.1
 have aH:∀i e,cO k i=B e->i<1000000/\fZ k e=i/\cO q.Y i=M/\e<1000000:=by intro i e aI;have bb:=bz _ (iM aI);exact⟨f8 bb.1.1.1.1.2,f8 bb.1.1.1.2,by simpa using bb.1.2,f8 bb.2⟩
 refine nj b7 λx t w A ck ah bQ=>?_
 have bG:=A.kM.o y;obtain⟨P,G,bp,bO⟩:=vp bU bd bG;obtain⟨ao,b3,b4,b5,b6,aZ⟩:∃ao:dY,(∀(j:Nat) (o:cT),args[j]?=B o->∃p,P[j]?=B p/\fM (fd K x q.Y w) ao p o)/\(∀i a,cO h i=B a->iv (fd K x q.Y w) ao w i a)/\H1 ao h/\(∀l y,h7 ao h l y->fd K x q.Y w l y=M)/\
   (match am with|some (i,aq)=>∀N,cO aF 1000000=B (.box N)->(∀l y,h7 ao h l y↔l=(x.dn i).1/\(x.dn i).2+aq<=y/\y<(x.dn i).2+aq+F N)/\ao.dn 1000000=((x.dn i).1,(x.dn i).2+aq)|none=>∀l y,¬h7 ao h l y):=by
  cases am with
  |none=>simp only[E9]at aO;subst aO;refine⟨x,λj o ad=>?_,λi a d=>u5,λi ak a a9 l y _ d=>u5,λl y d=>(rO d).elim,λl y d=>rO d⟩;simp only[yP]at a2;rw[<-a2]at ad;obtain⟨bl,a,d,rfl⟩:=Bj bm bc j o ad;obtain⟨p,aC,au⟩:=bp j a d;exact⟨p,aC,tY bl au⟩
  |some z=>
   obtain⟨i,aq⟩:=z;obtain⟨ae,aW,N,cN,rfl,an,bX,bq,bZ,aP,aU,_⟩:=aO;have a4:∀e a,cO [(1000000,eD.box aW)] e=B a->e=1000000/\a=.box aW:=by
    intro e a al;rw[io]at al;split at al
    next ap=>cases al;exact⟨ap.symm,rfl⟩
    .simp[cO]at al
   have a5:(x.mS 1000000 ((x.dn i).1,(x.dn i).2+aq)).dn 1000000=((x.dn i).1,(x.dn i).2+aq):=by simp[dY.mS]
   refine⟨x.mS 1000000 ((x.dn i).1,(x.dn i).2+aq),λj o ad=>?_,λe a al=>?_,?_,?_,?_⟩
   .have bH:(args.map<|zp i aq)[j]?=B (zp i aq o):=by rw[gy,ad];rfl
    simp only[yP]at a2;rw[<-a2]at bH;obtain⟨bl,a,d,ci⟩:=Bj bm bc j _ bH;obtain⟨p,aC,au⟩:=bp j a d;have bE:=tY bl au;rw[<-ci]at bE;exact⟨p,aC,ari (fp.1 ca o<|lp ad) bE⟩
   .obtain⟨rfl,rfl⟩:=a4 e a al;intro m o ad;rw[a5];have a6:=ad;rw[<-bZ,jd]at a6;split at a6
    .rw[j2]at a6;obtain⟨p,aG,aQ,a7⟩:=A.eV.gg i _ cN _ o a6;simp only[lH];exact⟨p,aG,aQ,nZ p o (fp.1 bX o<|lp ad) a7⟩
    .cases a6
   .intro e a1 a a9 l aS aR al b1;obtain⟨rfl,_⟩:=a4 e a al;obtain⟨rfl,_⟩:=a4 a1 a9 b1;exact absurd rfl aR
   .rintro l aS ⟨e,a,al,aJ⟩;obtain⟨rfl,rfl⟩:=a4 e a al;simp only[er,a5]at aJ;exact TQ ⟨i,_,cN,aJ.1,I,I⟩
   .intro bn bx;rw[an]at bx;cases bx;refine⟨λl aS=>⟨?_,λaJ=>⟨1000000,_,rfl,?_⟩⟩,a5⟩
    .rintro⟨e,a,al,aJ⟩;obtain⟨rfl,rfl⟩:=a4 e a al;simp only[er,a5]at aJ;rw[aP];exact aJ
    .simp only[er,a5];rw[<-aP];exact aJ
 have bV:=Y (fd K x q.Y w) ao w P bG.oy (by rw[G];have:=congrArg F a2;rw[FL]at this;rw[this];cases am<;>simp[yP]) b3 b4 b5 b6
 unfold ln;rw[bO];simp only[ly];refine bV.mono λe aE ap=>?_
 obtain⟨p,ai,rfl,a8,bh,bv,bs,b_,cc⟩:=ap;simp only
 let aN:=x.BI ai k
 let a0:fK:=y5 q aF am
 let aB:=t7 aF (fZ k) k a0;have bI:∀i,cO aB i=match cO k i with
  |some e=>(cO aF e).map<|eD.map<|V.fD<|fZ k
  |none=>cO a0 i:=λi=>SS aF _ a0 i k bR
 have bk:∀e,ms k e=T->aN.dn (fZ k e)=ai.dn e/\aN.dM (fZ k e)=ai.dM e:=by intro e al;simp only[ms,beq_iff_eq]at al;simp only[aN,dY.BI,al,and_self]
 have bC:∀i e,cO k i=B e->ms k e=T:=by intro i e aI;simp only[ms,beq_iff_eq,(aH i e aI).2.1,aI]
 let z:Nat->Bool:=λi=>(cO k i).isNone
 have az:∀i,z i=T->aN.dn i=x.dn i/\aN.dM i=x.dM i:=by intro i s;simp only[z,zz]at s;simp only[aN,dY.BI,s,and_self]
 let D:Nat->Bool:=λi=>(cO k i).isSome||(match am with|some (d0,_)=>i==d0|none=>Z)
 have bF:∀i,D i=Z->cO k i=M:=by intro i s;simp only[D,UN]at s;simpa using s.1
 have cj:∀i,D i=Z->cO a0 i=cO q.Y i:=by
  intro i s;simp only[D,UN]at s;cases am with
  |none=>rfl
  |some C=>
   obtain⟨d0,aq⟩:=C;simp only[a0,y5];split
   .rw[kZ,dA (λe=>by subst e;simp at s)]
   .rfl
 have Q:∀l aS,h7 ao h l aS->∃i r,D i=T/\cO q.Y i=B r/\er x i r l aS:=by
  intro l aS d;cases am with
  |none=>exact absurd d<|aZ l aS
  |some C=>obtain⟨d0,aq⟩:=C;obtain⟨ae,aW,N,cN,_,an,_,_,_,aP,aU,_⟩:=aO;have:=((aZ N an).1 l aS).1 d;exact⟨d0,_,QL,cN,this.1,I,I⟩
 have bw:fL w (λl y=>∃i r,D i=T/\cO q.Y i=B r/\er x i r l y) aE:=a8.kN Q;have aY:∀i e a,cO k i=B e->er aN i (eD.map (V.fD<|fZ k) a)=er ai e a:=by intro i e a aI;rw[pg];have:=bk e<|bC i e aI;rw[(aH i e aI).2.1]at this;funext l aS;cases a<;>simp only[er,this.1,this.2]
 have aD:∀i r,D i=T->cO aB i=B r->(∃e a,cO k i=B e/\cO aF e=B a/\r=a.map (V.fD<|fZ k))\/(∃aq ae N,am=B (i,aq)/\cO k i=M/\cO q.Y i=B (.box ae)/\cO aF 1000000=B (.box N)/\r=.box (lC ae aq N)/\aq+F N<=F ae):=by
  intro i r s ay;rw[bI]at ay;cases bg:cO k i with
  |some e=>rw[bg]at ay;obtain⟨a,d,rfl⟩:=gG.1 ay;exact .inl ⟨e,a,rfl,d,rfl⟩
  |none=>
   rw[bg]at ay;right;simp only[D,bg,tu,r7]at s;cases am with
   |none=>cases s
   |some C=>
    obtain⟨d0,aq⟩:=C;have:i=d0:=by simpa using s
    subst this;obtain⟨ae,aW,N,cN,_,an,_,_,_,aP,aU,_⟩:=aO;simp only[a0,y5,an,cN,kZ,if_true]at ay;cases ay;exact⟨aq,ae,N,rfl,rfl,cN,an,rfl,I⟩
 have bt:∀i r l y,D i=T->cO aB i=B r->er aN i r l y->(∃e eM,D e=T/\cO q.Y e=B eM/\er x e eM l y)\/w.heap.size<=l:=by
  intro i r l aS s ay ag;rcases aD i r s ay with⟨e,a,b,av,rfl⟩|⟨aq,ae,N,b,av,S,af,rfl,ar⟩
  .rw[aY i e a b]at ag;rcases bv l aS ⟨e,a,av,ag⟩with S|S
   .exact .inl<|Q l aS S
   .exact .inr S
  .refine .inl ⟨i,_,s,S,?_⟩;simp only[er,G2 ar,(az i QM).1]at ag;exact ag
 have a_:∀i aa,D i=Z->cO aB i=B aa->cO q.Y i=B aa:=by intro i aa s ay;rw[bI,bF i s]at ay;rw[<-cj i s];exact ay
 have bf:∀i r,D i=Z->cO q.Y i=B r->aN.dn i=x.dn i/\aN.dM i=x.dM i:=λi r s _=>az i (by simp[z,bF i s])
 have ba:=ui (K:=K) (x:=x) (ai:=aN) (w:=w) (aE:=aE) (h:=q.Y) (aF:=aB) A.eV D bf (λi aa b av=>⟨aa,λo=>o,a_ i aa b av,aa.map_id.symm⟩) bw bt;have cf:yF w (h7 ao h) (fd K aN aB aE) aE (h7 ai aF):=by
  intro l aS aV bT d bW;have bS:w.heap.size<=l:=by
   rcases bT with b|b
   .exact b
   .exfalso;cases am with
    |none=>exact aZ l aS b
    |some C=>obtain⟨d0,aq⟩:=C;obtain⟨ae,aW,N,cN,_,an,_,_,_,aP,aU,_⟩:=aO;have av:=aZ N an;have S:=(av.1 l aS).1 b;refine d ⟨1000000,_,an,?_⟩;simp only[er,bh 1000000 N (jq _) an,av.2];exact S
  refine TR (ai:=aN) (aF:=aB) A.eV (b:=λ_ _=>False) (λ_ _ h=>h.elim) l aS aV (.inl bS) ?_ bW;rintro⟨i,eM,aC,au⟩;cases s:D i with
  |false=>have aL:=a_ i eM s aC;rw[qZ (bf i eM s aL)]at au;have:=(A.eV.gg i eM aL).lt au;omega
  |true=>
   rcases aD i eM s aC with⟨e,a,b,av,rfl⟩|⟨aq,ae,N,b,av,S,af,rfl,ar⟩
   .rw[aY i e a b]at au;exact d ⟨e,a,av,au⟩
   .simp only[er,G2 ar,(az i QM).1]at au;have:=(A.eV.gg i _ S).lt (l:=l) (y:=aS) au;omega
 obtain⟨ce,bu⟩:=cc _ ba cf;have bP:nQ K aN aE aB:=by
  refine A.eV.step (ai:=aN) (aE:=aE) (aF:=aB) D (λo=>o) (V.fn z) bf (λi aa b av=>⟨aa,a_ i aa b av,aa.map_id.symm,bB _ _ (a_ i aa b av)⟩) bw bt ?_ (λaV a d bY=>bY.sR ba z az d) ?_ ?_ ?_
  ·
   have bj:∀i ak r aa l aS,(∃e a,cO k i=B e/\cO aF e=B a/\r=a.map (V.fD<|fZ k))->(∃aq ae N,am=B (ak,aq)/\cO k ak=M/\cO q.Y ak=B (.box ae)/\cO aF 1000000=B (.box N)/\aa=.box (lC ae aq N)/\aq+F N<=F ae)->er aN i r l aS->¬er aN ak aa l aS:=by
    rintro i ak r aa l aS ⟨e,a,b,av,rfl⟩ ⟨aq,ae,N,S,af,ar,ax,rfl,bL⟩ ag aM;rw[aY i e a b]at ag;simp only[er,G2 bL,(az ak (by simp[z,af])).1]at aM;subst S;have a3:=aZ N ax;have cg:h7 ao h l aS:=by
     rcases bv l aS ⟨e,a,av,ag⟩with bo|bo
     .exact bo
     .have:=(A.eV.gg ak _ ar).lt (l:=l) (y:=aS) aM;omega
    have bM:=(a3.1 l aS).1 cg;have bN:=bh 1000000 N (jq _) ax;refine bs 1000000 e _ a l aS ?_ ax av ?_ ag
    .have:=(aH i e b).2.2.2;omega
    .simp only[er,bN,a3.2];exact bM
   intro i ak r aa l aS s br aR ay bD ag aM;rcases aD i r s ay with b|b
   .rcases aD ak aa br bD with av|av
    .obtain⟨e,a,S,af,rfl⟩:=b;obtain⟨a1,a9,ar,ax,rfl⟩:=av;rw[aY i e a S]at ag;rw[aY ak a1 a9 ar]at aM;refine bs e a1 a a9 l aS (λb2=>aR ?_) af ax ag aM;rw[<-(aH i e S).2.1,<-(aH ak a1 ar).2.1,b2]
    .exact bj i ak r aa l aS b av ag aM
   .rcases aD ak aa br bD with av|av
    .exact bj ak i aa r l aS av b aM ag
    .obtain⟨aq,ae,N,S,_⟩:=b;obtain⟨cm,bK,bn,af,_⟩:=av;rw[S]at af;cases af;exact aR rfl
  .intro i eM s ay;rcases aD i eM s ay with⟨e,a,b,av,rfl⟩|⟨aq,ae,N,b,av,S,af,rfl,ar⟩
   .have:=(bu e a av).fD (ez.gU.refl _) (fZ k) (ms k) bk (bC i e b) (by
     have:=b9 _ (iM av);simp only[lc,beq_iff_eq]at this;rcases this with ax|ax
     .have:=(aH i e b).2.2.2;omega
     .exact ax)
    rw[(aH i e b).2.1]at this;exact this
   .have cb:=az i QM;subst b;obtain⟨bK,aW,bn,cN,_,an,_,bq,_,aP,aU,_⟩:=aO;rw[S]at cN;cases cN;rw[af]at an;cases an;have a3:=aZ N af;intro m o ad;rw[cb.1];rw[Ns ar]at ad;by_cases aw:aq<=m/\m<aq+F N
    .rw[dE aw]at ad;obtain⟨aV,aG,aQ,a7⟩:=bu 1000000 _ af _ o ad;rw[bh 1000000 N (jq _) af,a3.2]at aG aQ;simp only[(dd:(x.dn i).2+aq+(m-aq)=(x.dn i).2+m)]at aG aQ;exact⟨aV,aG,aQ,nZ aV o (fp.1 bq o<|lp ad) a7⟩
    .rw[dA aw]at ad;obtain⟨aV,aG,aQ,a7⟩:=A.eV.gg i _ S m o ad;refine⟨aV,a8.cell aG λd=>?_,by rw[a8.aaq (rk w _ aG)];exact aQ,a7.sR ba z az<|fp.1 (bB _ _ S) o<|lp ad⟩;have:=(a3.1 _ _).1 d;omega
  .intro i cl s S ay;rcases aD i _ s ay with⟨e,a,b,av,_⟩|⟨aq,ae,N,b,av,af,_⟩
   .have:=(aH i e b).1;omega
   .rw[(az i QM).1];exact A.eV.rL i ae S af
  .intro i r s ay bd l aS ag;rcases aD i _ s ay with⟨e,a,b,av,rfl⟩|⟨aq,ae,N,b,av,af,ar,ax,_⟩
   .rw[aY i e a b]at ag;exact(b_ e a av Xl l aS ag).elim (λC=>.inl<|mY A.eV.gJ.size C) λC=>(la l K.r6.heap.size).elim (λau=>.inr ag7) .inl
   .subst ax;cases bd
 have cd:=(A.move bP ba z az (match y.dst with|some D=>pS q.tmps D|none=>q.tmps) (λcn v ab=>by
  cases aX:y.dst with
  |none=>rw[aX]at ab;refine⟨ab,?_⟩;have:=bA _ _ ab;simpa[aX]using this
  |some bJ=>
   rw[aX]at ab;simp only[t6]at ab;split at ab
   .cases ab
   .rename_i aR;refine⟨ab,?_⟩;have:=bA _ _ ab;simp only[aX,lc,beq_iff_eq,h0]at this;rcases this with b|b
    .exact absurd b aR
    .exact b)).put y.dst (nG b0) (ce.imp (λv a d g=>g.fD (ez.gU.refl _) (fZ k) (ms k) bk d) b8)
 refine bQ _ _ ⟨aN,cd.jU (λg=>?_) ?_⟩
 .cases aX:y.dst with
  |none=>rfl
  |some bJ=>simp only[cP.after];exact(vU _ bJ _ g).symm
 .cases aX:y.dst<;>rfl
def XG{f:gk}{g args:E cT}{aF:fK}{r:cT}{h:fK}(d:E (E Nat))(b:E (Nat×Nat))(a:X (Nat×Nat))(o:hF ops y q=B T)(m:jB n y=T)(l:lh q y=B (f,g))(k:iz u f=T)
  (j:m3 d g=yP a args)(A:args.all (M6 a)=T)(C:E9 q h aF b a)
  (cR:vN q aF r b y.dst=T)(Y:ih u f args h r aF):km u K n ops y q (q.after aF r b a y.dst):=by
 simp only[vN,fz,fp]at cR;have⟨⟨⟨⟨p,s⟩,t⟩,x⟩,z⟩:=cR;exact XI d b a o m l k j A C p (λD v ab=>s _ (iM ab)) (λi r ay=>t _ (iM ay)) x z Y
def ahE{K:fb}{n:Nat}{t:Act}{w:d2}{q:cP}{a:Nat}{e l:Bool}(h:cO q.tmps a=B (.c (.cY (.bool e))))(b:e=l)(r:R K n t w q):R K n t w (q.put (B a) (.c (.cY (.bool l)))):=by
 subst b;have⟨x,r⟩:=r;refine⟨x,r.jU (λg=>?_) rfl⟩;rw[ov];split
 next af=>subst af;exact h.symm
 .rfl
def dT.G6(N:dT)(a:Nat)(l:Bool):dT:=N.tf (N.d1.put (B a) (.c (.cY (.bool l))))
def o6{u:dw}{K:fb}{n:Nat}{ah:fE->cP->Prop}{N:dT}(a:Nat){e l:Bool}(b:e=l)(h:cO N.d1.tmps a=B (.c (.cY (.bool e))))(d:N.pre=T)(g:TS u K n (N.G6 a l) ah):TS u K n N ah:=vg _ (λ_ _ r=>ahE h b r) d g
structure i5 where
 Ut:E (Nat×E Nat)
 ds:E (Nat×(Nat×E Nat))
def i5.to(f:i5)(i:Nat):Nat:=match cO f.ds i with
 |some C=>C.1
 |none=>i
def Nz(s:E (Nat×cT))(S:Nat->Nat):E (Nat×E Nat)->X (E (Nat×cT))
 |[]=>B []
 |(a,b)::d=>match cO s a,Nz s S d with
  |some v,B r=>B<|(a,(tX b v).map<|V.fD S)::r
  |_,_=>M
def Ny(h:fK)(S:Nat->Nat):E (Nat×(Nat×E Nat))->X fK
 |[]=>B []
 |(i,(b,g))::d=>match cO h i,Ny h S d with
  |some a,B r=>B<|(b,(qS g a).map<|V.fD S)::r
  |_,_=>M
def i5.Gl(f:i5)(i:Nat):Bool:=(cO f.ds i).isSome||f.ds.all λC=>C.2.1 !=i
def i5.ok(f:i5)(ht:E (Nat×cT))(h:fK):Bool:=
 (f.ds.all λC=>decide (cO f.ds C.1=B C.2)&&(decide (C.2.1<1000000)||C.1==C.2.1||(match cO h C.1 with|some r=> !r.kr|none=>Z))&&f.ds.all λb=>C.1==b.1||C.2.1 !=b.2.1)&&
 (f.Ut.all λC=>match cO ht C.1 with|some v=>v.eY (V.fn f.Gl)|none=>T)&&(f.ds.all λC=>match cO h C.1 with|some a=>a.eY (V.fn f.Gl)|none=>T)
def n1(f:i5)(q:cP):X cP:=if f.ok q.tmps q.Y then
  match Nz q.tmps f.to f.Ut,Ny q.Y f.to f.ds with
  |some ht,B h=>B ⟨ht,h⟩
  |_,_=>M
 else M
theorem adK{s:E (Nat×cT)}{S:Nat->Nat}:∀(b:E (Nat×E Nat)) {ht:E (Nat×cT)},Nz s S b=B ht->∀a v,cO ht a=B v->∃g j,(a,g)∈b/\cO s a=B j/\v=(tX g j).map (V.fD S)
 |[],ht,e,a,v,d=>Xk
 |(l,g)::b,ht,e,a,v,d=>by
  simp only[Nz]at e;split at e
  .rename_i j r aC au;cases e;rw[io]at d;split at d
   next i=>subst i;cases d;exact cU
   .have⟨k,m,aL,aT⟩:=adK b au a v d;exact ef
  .cases e
theorem adJ{s:fK}{S:Nat->Nat}:∀(k:E (Nat×(Nat×E Nat))) {h:fK},Ny s S k=B h->∀g a,cO h g=B a->∃i b m,(i,(g,b))∈k/\cO s i=B m/\a=(qS b m).map (V.fD S)
 |[],ht,e,l,v,d=>Xk
 |(d0,(q,b))::p,ht,e,l,v,d=>by
  simp only[Ny]at e;split at e
  .rename_i j r aC au;cases e;rw[io]at d;split at d
   next o=>subst o;cases d;exact ef
   .have⟨i,t,u,aL,aT⟩:=adJ p au l v d;exact ef
  .cases e
def ZM(z:Nat->Bool)(g:Nat)(a:V)(h:a.fn z=T):(rJ g a).fn z=T:=by
 unfold rJ;split
 .exact h
 .split<;>first|rfl|exact h
def RM(z:Nat->Bool)(i:E Nat)(b:E V)(h:b.all (V.fn z)=T):(kp i b).all (V.fn z)=T:=by
 refine fp.2 λo ad=>?_
 have⟨m,aw⟩:=xC ad;obtain⟨g,a,d,rfl⟩:=tW i b m o aw;exact ZM z g a<|fp.1 h a<|lp d
def akb(z:Nat->Bool)(b:E Nat)(v:cT)(h:v.eY (V.fn z)=T):(tX b v).eY (V.fn z)=T:=by
 cases v with
 |c a=>cases b with
  |nil=>exact h
  |cons g b=>exact ZM z g a h
 |agg i=>exact RM z b i h
 |eu ae=>
  refine fp.2 λo ad=>?_
  have⟨m,aw⟩:=xC ad;obtain⟨j,a,d,rfl⟩:=RO b ae m o aw;exact RM z j a.2<|fp.1 h a<|lp d
def aj_(z:Nat->Bool)(a:E Nat)(r:eD)(h:r.eY (V.fn z)=T):(qS a r).eY (V.fn z)=T:=by
 cases r with
 |box b=>exact RM z a b h
 |row e q n ae=>rfl
 |fw e q n=>rfl
 |dR L=>rfl
 |g7 ak=>rfl
theorem R.rK{K:fb}{n:Nat}{t:Act}{w:d2}{q ao:cP}(f:i5)(P:n1 f q=B ao)(h:R K n t w q):R K n t w ao:=by
 have⟨x,h⟩:=h;unfold n1 at P;split at P
 .rename_i ay;split at P
  .rename_i ht Y aE hS;cases P;simp only[i5.ok,fz,fp]at ay;have⟨⟨aN,aO⟩,aP⟩:=ay;have am:∀C,C∈f.ds->cO f.ds C.1=B C.2/\(C.2.1<1000000\/C.1=C.2.1\/∀aj,cO q.Y C.1≠B (.box aj))/\∀s,s∈f.ds->C.1=s.1\/C.2.1≠s.2.1:=by
    intro C ap;have:=aN C ap;refine⟨f8 this.1.1,?_,λs S=>?_⟩
    .have o:=this.1.2;simp only[lc,i6,beq_iff_eq]at o;rcases o with(o|o)|o
     .exact .inl o
     .exact .inr<|.inl o
     .refine .inr (.inr λaj aI=>?_);rw[aI]at o;cases o
    .have o:=this.2 s S;simp only[lc,beq_iff_eq,bne_iff_ne]at o;exact o
   let N:Nat->Nat:=λk=>match f.ds.find? (λC=>C.2.1==k)with
    |some C=>C.1
    |none=>k
   let ai:dY:=⟨λk=>x.dn<|N k,λk=>x.dM<|N k⟩;have aF:∀i C,cO f.ds i=B C->N C.1=i:=by
    intro i C ap;have ax:=iM ap;simp only[N];split
    .rename_i s S;have G:=UO S;simp only[beq_iff_eq]at G;have o:=List.mem_of_find?_eq_some S;rcases(am s o).2.2 (i,C) ax with al|al
     .exact al
     .exact absurd G al
    next cR=>exact absurd (List.find?_eq_none.1 cR _ ax) dh
   let z:Nat->Bool:=f.Gl;have ah:∀i,z i=T->ai.dn (f.to i)=x.dn i/\ai.dM (f.to i)=x.dM i:=by
    intro i af;cases ap:cO f.ds i with
    |some C=>simp only[ai,i5.to,ap,aF i C ap,and_self]
    |none=>
     have aG:N i=i:=by
      simp only[z,i5.Gl,ap,tu,r7,fp]at af;simp only[N];split
      next s S=>have G:=UO S;simp only[beq_iff_eq]at G;have:=af s ef;simp[G]at this
      .rfl
     simp only[ai,i5.to,ap,aG,and_self]
   have Q:∀k a,cO Y k=B a->∃i m b,cO f.ds i=B (k,m)/\cO q.Y i=B b/\a=(qS m b).map (V.fD f.to)/\f.to i=k/\z i=T:=by intro k a d;have⟨i,m,b,aC,au,aL⟩:=adJ f.ds hS k a d;have aT:=(am _ aC).1;exact⟨i,m,b,aT,au,aL,by simp[i5.to,aT],by simp[z,i5.Gl,aT]⟩
   have ag:∀i k b (A:V->V) m,f.to i=k->z i=T->er ai k ((qS m b).map A)=er x i b:=by intro i k b A m G o;rw[pg,Bl,<-G];have:=ah i o;funext l y;cases b<;>simp only[er,this.1,this.2]
   have aY:∀l y,h7 ai Y l y->h7 x q.Y l y:=by rintro l y ⟨k,a,aC,au⟩;obtain⟨i,m,b,aL,aT,rfl,aK,a6⟩:=Q k a aC;rw[ag i k b _ m aK a6]at au;exact⟨i,b,aT,au⟩
   have aw:(fd K x q.Y w).gU (fd K ai Y w):=by
    intro l y v ab;unfold fd at*;split at ab
    .cases ab
    next d=>rwa[dA ef]
   have aQ:∀i b,cO f.ds i≠M->cO q.Y i=B b->b.eY (V.fn z)=T:=by intro i b af d;have⟨C,ap⟩:=Option.ne_none_iff_exists'.1 af;have:=aP _ (iM ap);simp only[d]at this;exact this
   refine⟨ai,h.defers,h.size,h.oo,⟨h.eV.gJ,λk a d=>?_,λl y d ar=>h.eV.may l y cU ar,?_,?_,?_⟩,λaA v ab=>?_⟩
   .obtain⟨i,m,b,aL,aT,rfl,aK,a6⟩:=Q k a d;have:=(RN m<|h.eV.gg i b aT).fD aw f.to z ah a6<|aj_ z m b<|aQ i b (by rw[aL];simp) aT;rwa[aK]at this
   .intro k an a aX l y aR d aS ad av;obtain⟨i,m,b,aL,aT,rfl,aK,a6⟩:=Q k a d;obtain⟨e,aU,aB,aZ,aV,rfl,az,aW⟩:=Q an aX aS;rw[ag i k b _ m aK a6]at ad;rw[ag e an aB _ aU az aW]at av;exact h.eV.lR i e b aB l y (λaM=>aR (by rw[<-aK,<-az,aM])) aT aV ad av
   .intro k aj aD d;have⟨i,m,b,aL,aT,u,aK,a6⟩:=Q k _ d;have aH:∃D,b=.box D:=by
     cases b with
     |box D=>exact⟨D,rfl⟩
     |row e q n ae=>cases u
     |fw e q n=>cases u
     |dR L=>cases u
     |g7 ak=>cases u
    have aJ:i=k:=by
     rcases(am _ (iM aL)).2.1 with aa|aa|aa
     .simp only at aa;omega
     .exact aa
     .obtain⟨D,rfl⟩:=aH;exact absurd aT<|aa D
    have aq:=(ah i a6).1;rw[aK]at aq;rw[aq];subst aJ;cases b with
    |box D=>exact h.eV.rL i D aD aT
    |row e q n ae=>cases u
    |fw e q n=>cases u
    |dR L=>cases u
    |g7 ak=>cases u
   .intro k a d ar l y ad;obtain⟨i,m,b,aL,aT,rfl,aK,a6⟩:=Q k a d;rw[ag i k b _ m aK a6]at ad;exact h.eV.iA i b aT (by cases b<;>simp_all[qS,eD.kr,eD.map]) l y ad
   .obtain⟨m,j,aC,au,rfl⟩:=adK f.Ut aE aA v ab;have⟨p,aL,aT⟩:=h.tmps aA j au;have aK:=aO _ aC;simp only[au]at aK;exact⟨p,aL,(tY m aT).imp (λv a d g=>g.fD aw f.to z ah d)<|akb z m j aK⟩
  .cases P
 .cases P
def aii(f:i5)(ao:cP)(h:n1 f N.d1=B ao)(a:N.pre=T)(g:TS u K n (N.tf ao) ah):TS u K n N ah:=vg ao (λ_ _ r=>r.rK f h) a g
def dT.rK(N:dT)(f:i5):dT:=match n1 f N.d1 with
 |some ao=>N.tf ao
 |none=>.iZ
def aij(f:i5)(a:N.pre=T)(g:TS u K n (N.rK f) ah):TS u K n N ah:=by
 unfold dT.rK at g;split at g
 next ao h=>exact aii f ao h a g
 .exact g.elim
def cP.kf(q:cP)(b:E (Nat×cT))(a:E (Nat×eD)):cP:={tmps:=b.foldl (λs z=>hB z.1 z.2 s) q.tmps,Y:=a.foldl (λs z=>hB z.1 z.2 s) q.Y}
def dT.eU:dT->E oP
 |.mk eU _ _=>eU
 |.iZ=>[]
def dT.rest:dT->E oP
 |.mk (_::eU) _ _=>eU
 |_=>[]
def vG(u:dw)(K:fb)(n:Nat)(eU:E oP)(ah:fE->cP->Prop){i S:Type}(a:i->cP)(m:i->X S)(r:S):fE->cP->Prop
 |.normal,q=>∃v,m v=B r/\∀t w,R K n t w q->R K n t w (a v)
 |e,q=>mE u K n eU ah e q
def dT.NL:dT->dT
 |.mk (.code (.seq a _)::_) .normal q=>.mk [.code a] .normal q
 |_=>.iZ
def dT.T8(N:dT)(q:cP):dT:=match N with
 |.mk (.code (.seq _ o)::eU) .normal _=>.mk (.code o::eU) .normal q
 |_=>.iZ
def aiG{a o:k7}{q:cP}{i:Type}{S:Type}(b:i->cP)(m:i->X S)(r:S){eU:E oP}(aw:∀v,m v=B r->ht u K n o (b v) (mE u K n eU ah))(d:ht u K n a q (vG u K n eU ah b m r)):ht u K n (.seq a o) q (mE u K n eU ah):=λt w l=>
 wp_seq (wp_mono (d t w l) λe g aE ⟨ao,j,C⟩=>by
  cases e<;>simp only[vG]at C<;>simp only[Exit.then]
  case normal=>have⟨v,G,k⟩:=C;exact aw v G g aE<|k g aE j
  all_goals exact⟨ao,j,C⟩)
def aip{i S:Type}(a:i->cP)(m:i->X S)(r:S)(aw:∀v,m v=B r->TS u K n (N.T8 (a v)) ah)(d:TS u K n N.NL (vG u K n N.rest ah a m r)):TS u K n N ah:=by
 unfold dT.NL at d;split at d
 .exact aiG a m r aw d
 .exact d.elim
def dT.vx:dT->Bool
 |.mk [] .normal _=>T
 |_=>Z
def dT.l_(N:dT)(eU:E oP):dT:=match N with
 |.mk [] e q=>.mk eU e q
 |_=>.iZ
def dT.sL:dT->Bool
 |.mk [] .ret _=>T
 |.mk [] (.exit _) _=>T
 |_=>Z
def Fk{i S:Type}{b:i->cP}{m:i->X S}{r:S}{eU:E oP}(v:i)(f:i5)(aw:m v=B r)(a:N.vx=T)(d:n1 f N.d1=B (b v)):TS u K n N (vG u K n eU ah b m r):=by
 unfold dT.vx at a;split at a
 .exact⟨v,aw,λt w g=>g.rK f d⟩
 .cases a
def tQ{i S:Type}{b:i->cP}{m:i->X S}{r:S}{eU:E oP}(a:N.sL=T)(g:TS u K n (N.l_ eU) ah):TS u K n N (vG u K n eU ah b m r):=by
 unfold dT.sL at a;split at a
 .exact g
 .exact g
 .cases a
section
variable{s S:Type}
def mM(i:s->X (s⊕S)):Nat->s->X S
 |0,_=>M
 |n+1,q=>match i q with
  |some (.inl ao)=>mM i n ao
  |some (.inr r)=>B r
  |none=>M
def Sz{i:s->X (s⊕S)}:∀{n A:Nat} {q:s} {r:S},mM i n q=B r->n<=A->mM i A q=B r
 |0,_,_,_,h,_=>o0
 |n+1,0,_,_,_,a=>I
 |n+1,A+1,q,r,h,a=>by
  simp only[mM]at h⊢;split at h
  .exact Sz h I
  .exact h
  .cases h
open Classical in
def dq(i:s->X (s⊕S))(q:s):X S:=match mM i 4096 q with
 |some r=>B r
 |none=>if h:∃r n,mM i n q=B r then B (VL h)else M
def aa6{i:s->X (s⊕S)}{q:s}{r b:S}{n A:Nat}(h:mM i n q=B r)(aF:mM i A q=B b):r=b:=by have G:=Sz h<|Nat.le_max_left n A;have a:=Sz aF<|Nat.le_max_right n A;rw[G]at a;exact mg a
theorem Gt{i:s->X (s⊕S)}{q:s}{r:S}{n:Nat}(h:mM i n q=B r):dq i q=B r:=by
 have d:∃r n,mM i n q=B r:=ef;unfold dq;cases dI:mM i 4096 q with
 |some b=>rw[aa6 dI h]
 |none=>simp only;rw[dif_pos d];have⟨A,a⟩:=OH d;rw[aa6 a h]
theorem MW{i:s->X (s⊕S)}{q:s}{r:S}(h:dq i q=B r):∃n,mM i n q=B r:=by
 unfold dq at h;cases dI:mM i 4096 q with
 |some a=>rw[dI]at h;cases h;exact ef
 |none=>
  rw[dI]at h;simp only at h;split at h
  next d=>cases h;exact OH d
  .cases h
def abq(i:s->X (s⊕S))(q:s):dq i q=match i q with
  |some (.inl ao)=>dq i ao
  |some (.inr r)=>B r
  |none=>M:=by
 cases aj:i q with
 |none=>
  cases cN:dq i q with
  |none=>rfl
  |some r=>
   have⟨n,cR⟩:=MW cN;cases n with
   |zero=>cases cR
   |succ n=>simp[mM,aj]at cR
 |some a=>
  cases a with
  |inr r=>exact Gt (n:=1) (by simp[mM,aj])
  |inl ao=>
   simp only;cases cN:dq i ao with
   |some r=>have⟨n,cR⟩:=MW cN;exact Gt (n:=n+1) (by simp[mM,aj,cR])
   |none=>
    cases b:dq i q with
    |none=>rfl
    |some r=>
     have⟨n,cR⟩:=MW b;cases n with
     |zero=>cases cR
     |succ n=>simp only[mM,aj]at cR;rw[Gt cR]at cN;cases cN
def dT.body(N:dT)(q:cP):dT:=match N with
 |.mk (.code (.loop c)::_) .normal _=>.mk [.code c] .normal q
 |_=>.iZ
def dT.vE:dT->Bool
 |.mk (.code (.loop _)::_) .normal _=>T
 |_=>Z
end
def dT.t2:dT->Bool
 |.mk [] .normal _=>T
 |.mk [] .ret _=>T
 |_=>Z
def AZ{u:dw}{K:fb}{n:Nat}{N:dT}{b:n5}{i:E (E Nat)}{spec:E (Nat×E Nat)}{r:cT}{aF:fK}(a:N.t2=T)(h:(ll u N.d1 i b.results.toList).bind ma=B r)(g:s6 N.d1.Y spec=B aF):TS u K n N (Hb u b i spec r aF):=by
 have⟨ae,G,d⟩:=jc.1 h;unfold dT.t2 at a;split at a
 .exact⟨⟨ae,G,d⟩,g⟩
 .exact⟨⟨ae,G,d⟩,g⟩
 .cases a
def dT.op:dT->X (Array dy×dy)
 |.mk (.ops a (y::_)::_) .normal _=>B (a,y)
 |_=>M
def dT.next(N:dT)(ao:cP):dT:=match N with
 |.mk (.ops a (_::s)::eU) .normal _=>.mk (.ops a s::eU) .normal ao
 |_=>.iZ
def o8{a:Array dy}{y:dy}{ao:cP}(cK:N.op=B (a,y))(h:km u K n a y N.d1 ao)(g:TS u K n (N.next ao) ah):TS u K n N ah:=by
 unfold dT.op at cK;split at cK
 .cases cK;exact QZ h g
 .cases cK
def dT.ft(n:Nat)(N:dT):Bool:=match N.op with
 |some (a,y)=>(match hF a y N.d1 with|some T=>T|_=>Z)&&jB n y
 |none=>Z
def dT.dst(N:dT):X Tmp:=match N.op with
 |some (_,y)=>y.dst
 |none=>M
def dT.ret(N:dT)(v:cT):dT:=N.next (N.d1.put N.dst v)
def ph(h:N.ft n=T):∃a y,N.op=B (a,y)/\hF a y N.d1=B T/\jB n y=T/\N.dst=y.dst:=by
 unfold dT.ft at h;split at h
 .rename_i a y cK;simp only[fz]at h;refine⟨a,y,cK,?_,h.2,by simp[dT.dst,cK]⟩;have G:=h.1;split at G
  .assumption
  .cases G
 .cases h
theorem l8(v:cT)(ar:N.ft n=T)(Y:∀a y,N.op=B (a,y)->jP u y N.d1 v)(g:TS u K n (N.ret v) ah):TS u K n N ah:=by have⟨a,y,cK,G,b,d⟩:=ph ar;refine o8 cK (AT v G b cU) ?_;rwa[<-d]
def dT.callee(N:dT)(a:E (E Nat)):X (gk×E cT):=match N.op with
 |some (_,y)=>match lh N.d1 y with
  |some (f,b)=>B (f,m3 a b)
  |none=>M
 |none=>M
theorem FI{b:E (E Nat)}{f:gk}{ak:E cT}(h:N.callee b=B (f,ak)){d:Array dy}{y:dy}(cK:N.op=B (d,y)):∃a,lh N.d1 y=B (f,a)/\m3 b a=ak:=by
 unfold dT.callee at h;rw[cK]at h;simp only at h;split at h
 next g a ab=>cases h;exact cU
 .cases h
def aig{f:gk}{ak:E cT}{r:cT}(a:E (E Nat))(Y:ih u f ak [] r [])(d:N.callee a=B (f,ak))(ar:(N.ft n&&iz u f&&r.eY V.il)=T)(g:TS u K n (N.ret r) ah):TS u K n N ah:=by simp only[fz]at ar;refine l8 r ar.1.1 (λi y cK=>?_) g;have⟨j,G,b⟩:=FI d cK;exact aaA a G ar.1.2 b ar.2 Y
def G4(q:cP)(h aF:fK)(g:E (Nat×Nat)):X (Nat×Nat)->Bool
 |some (i,aq)=>match cO q.Y i,h,cO aF 1000000 with
  |some (.box d),[(1000000,.box a)],B (.box b)=>a.all V.il&&b.all V.il&&decide (F b=F a)&&decide (aq+F a<=F d)&&(cO g i).isNone
  |_,_,_=>Z
 |none=>h.isEmpty
def zx(q:cP)(h:fK):X (Nat×Nat)->E V×E V
 |some (i,aq)=>match cO q.Y i,h with
  |some (.box b),[(_,.box a)]=>((b.drop aq).take<|F a,a)
  |_,_=>([],[])
 |none=>([],[])
def aqx{q:cP}{h aF:fK}{b:E (Nat×Nat)}{a:X (Nat×Nat)}(af:G4 q h aF b a=T)(l:(zx q h a).1=(zx q h a).2):E9 q h aF b a:=by
 cases a with
 |none=>simpa[G4,E9]using af
 |some z=>
  have⟨i,aq⟩:=z;simp only[G4]at af;split at af
  next j d g G k=>simp only[fz,i6,zz]at af;refine⟨j,d,g,G,rfl,k,af.1.1.1.1,af.1.1.1.2,?_,af.1.1.2,af.1.2,af.2⟩;simpa[zx,G]using l
  .cases af
def X5{f:gk}{ak:E cT}{r:cT}{h aF:fK}(i:E (E Nat))(b:E (Nat×Nat))(a:X (Nat×Nat))(Y:ih u f ak h r aF)(o:N.callee i=B (f,yP a ak))(ar:(N.ft n&&iz u f&&ak.all (M6 a)&&G4 N.d1 h aF b a&&vN N.d1 aF r b N.dst)=T)(x:(zx N.d1 h a).1=(zx N.d1 h a).2)
  (g:TS u K n (N.next<|N.d1.after aF r b a N.dst) ah):TS u K n N ah:=by
 simp only[fz]at ar;have⟨⟨⟨⟨p,q⟩,s⟩,t⟩,d⟩:=ar;have⟨z,y,cK,G,j,k⟩:=ph p;have⟨A,l,m⟩:=FI o cK;rw[k]at g d;exact o8 cK (XG i b a G j l q m s (aqx t x) d Y) g
def ek(g:g0)(n:Nat)(s:E Int):E V:=(jG n).map λj=>.cY (.int g (s.getD j 0))
def c4(g:g0)(n:Int):E V:=[.cY (.int g n)]
def i0(l:Bool):E V:=[.cY (.bool l)]
def jK{ag:Type}(q:Nat)(f:ag->E V)(s:E ag):E V:=[.d_ q 0 (F s) (s.map f)]
def di{ag:Type}(s:E ag)(j:Int):X ag:=if 0<=j then s[j.toNat]? else M
theorem F9{ag:Type}{s:E ag}{j:Int}{i:ag}(h:di s j=B i):0<=j/\s[j.toNat]?=B i:=by
 unfold di at h;split at h
 .exact cU
 .cases h
def atu{ag D:Type}{f:ag->D}{s:E ag}{n:Nat}{i:ag}(h:s[n]?=B i):(s.map f)[n]?=B (f i):=by rw[gy,h];rfl
def ls{ag D:Type}{a:X ag}{f:ag->X D}{r:D}(h:a.bind f=B r):∃v,a=B v/\f v=B r:=jc.1 h
theorem sP{ag:Type}{l:Bool}{a o:X ag}{r:ag}(h:(bif l then a else o)=B r):(l=T/\a=B r)\/(l=Z/\o=B r):=by
 cases l
 .exact .inr cU
 .exact .inl cU
theorem ZR{ag:Type}{l:Bool}{a:X ag}{r:ag}(h:(bif l then a else M)=B r):l=T/\a=B r:=by
 cases l
 .cases h
 .exact cU
def GH{e:Bool}(h:e=Z):(!e)=T:=Lh
def q5{e:Bool}(h:e=T):(!e)=Z:=Lh
def nn(n:Nat)(t l:E Int):Bool:=(jG n).foldr (λj r=>(t.getD j 0==l.getD j 0)&&r) T
def eS{ag:Type}(q:Nat)(f:ag->E V)(s:E ag):V:=.d_ q 0 (F s) (s.map f)
def MH{rd:ez}{p:dp}{q Q:Nat}{ae:E (E V)}(h:h2 rd p (.d_ q 0 Q ae)):Q=F ae:=by
 cases h with
 |nil=>rfl
 |d_ l y n c ao a f cR=>exact cR.symm
def aa3{rd:ez}{p:dp}{q Q:Nat}{ae:E (E V)}(h:h2 rd p (.d_ q 0 Q ae)):h2 rd p (.d_ q 0 (F ae) ae):=by rw[<-MH h];exact h
def vW{u:dw}{w:d2}(g:g0)(n:Int)(o:Nat)(c:BoundsCode)(dI:0<=n)(G:n<=o):(um (.int g n) o c).run u w=.ok n.toNat w:=by simp[um,asIntOf,dI,G]
def alp{ag:Type}{u:dw}{y:dy}{q:cP}{av e:f1}{a:hp}{i hi:X hp}{f:ag->E V}(sz tag Q:Nat)(s:E ag)(aa S:X (g0×Int))(t l:Int)(cK:y.op=.slice av a i hi M)(d:dZ q a=B (.c (.d_ sz tag Q (s.map f))))
  (K:i.map (dZ q)=aa.map λz=>B<|int z.1 z.2)(D:hi.map (dZ q)=S.map λz=>B<|int z.1 z.2)(A:t=(aa.map (·.2)).getD 0)(C:l=(S.map (·.2)).getD (Q:Int))
  (aA:u.underlying av=B (.slice e))(aU:(u.info? e).map (·.size)=B sz)(dI:0<=t)(G:t<=l)(am:l<=F s):jP u y q (.c<|.d_ sz 0 (F<|(s.take l.toNat).drop t.toNat)<|((s.take l.toNat).drop t.toNat).map f):=by
 refine iH.jC λx rd ak w ai=>?_
 have ab:=ai.op a _ hD d;simp only[fM,fA,ea]at ab;have aW:Q=F s:=(MH ab.1).trans dh;subst aW;have⟨j,P,aH⟩:=gG.1 aU;have key:∀(k aV:Nat),k=F s->k<=aV->(un T k aV (i.map ak.eval) (hi.map ak.eval) (M:X dp)).run u w=.ok (t.toNat,l.toNat,aV) w:=by
  intro k aV aP aK;have g:(match hi.map ak.eval with|some v=>um v aV .sliceAcap|none=>pure k:Sem Nat).run u w=.ok l.toNat w:=by
   cases hi with
   |none=>
    cases S with
    |none=>simp at C;subst C;simp[aP]
    |some z=>simp at D
   |some o=>
    cases S with
    |none=>simp at D
    |some z=>simp only[iq,h0,n7]at D C;have:=hw<|ai.op o _ hD D;simp only[iq,this];rw[<-C];exact vW _ _ _ _ I I
  have b:(match i.map ak.eval with|some v=>um v l.toNat .sliceB|none=>pure 0:Sem Nat).run u w=.ok t.toNat w:=by
   cases i with
   |none=>
    cases aa with
    |none=>simp at A;subst A;simp
    |some z=>simp at K
   |some o=>
    cases aa with
    |none=>simp at K
    |some z=>simp only[iq,h0,n7]at K A;have:=hw<|ai.op o _ hD K;simp only[iq,this];rw[<-A];exact vW _ _ _ _ I I
  unfold un;cases hi with
  |none=>
   cases i with
   |none=>simp at b g⊢;exact dd
   |some o=>simp only[oD,iq,g3,hM,gn,tu,j0,if_false]at b g⊢;cases g;rw[b];simp
  |some an=>
   cases i with
   |none=>simp only[oD,iq,g3,hM,gn,if_true]at b g⊢;rw[g];simp at b⊢;exact b
   |some o=>simp only[iq,g3,hM,gn,tu,j0,if_false,if_true]at b g⊢;rw[g];simp only[gn];rw[b];simp
 generalize ar:ak.eval a=v at*;have⟨ab,_⟩:=ab;generalize au:s.map f=ae at ab;generalize az:F s=aw at ab;cases ab with
 |nil _ aJ db aG=>
  have aF:s=[]:=by simpa using au
  subst aF;have aC:l.toNat=0:=by simp at am;omega
  have aB:t.toNat=0:=by simp at am;omega
  have af:=key 0 db rfl dd;refine⟨_,ag8,?_⟩;rw[aB,aC];simp only[fM,fA,ea,List.take_nil,List.drop_nil,jY];exact⟨.nil _ _ _ I,trivial⟩
 |d_ ax al n c ao aL p cR aD aG aj ay aI=>
  have af:=key aw c az.symm aD;refine⟨_,ag8,?_⟩;simp only[fM,fA,ea];refine⟨?_,trivial⟩;by_cases aq:c=t.toNat
  .rw[dE aq];have ap:l.toNat=t.toNat:=I;have:(s.take l.toNat).drop t.toNat=[]:=by rw[ap];simp
   rw[this,ap,Nat.sub_self];exact .nil _ _ _ I
  .rw[dA aq];simp only[iq,iS,aH];have aP:F ((s.take l.toNat).drop t.toNat)=l.toNat-t.toNat:=fv;have ah:∀(j:Nat) (an:E V),(((s.take l.toNat).drop t.toNat).map f)[j]?=B an->ae[t.toNat+j]?=B an:=by
    intro j an N;rw[<-au,gy];rw[gy,j2,jd]at N;split at N
    .exact N
    .cases N
   rw[aP];refine .d_ ax (al+t.toNat*sz) (l.toNat-t.toNat) (c-t.toNat) sz _ (λj m=>p (t.toNat+j) m) (by rw[fT];exact aP) I I ?_ ?_ ?_
   .intro an N;have⟨j,aE⟩:=xC N;exact aj an<|lp<|ah j an aE
   .intro j an m o N ad;have:=ay _ _ _ _ (ah j an N) ad;rw[show al+t.toNat*sz+j*sz+m=al+(t.toNat+j)*sz+m by rw[jZ];omega];exact this
   .intro j an m o N ad;exact aI _ _ _ _ (ah j an N) ad
theorem T1{rd:ez}{w:d2}(i:∀l y v,rd l y=B v->w.cell? ⟨l,y,M⟩=B v){l y n c q Q:Nat}{ae:E (E V)}(h:h2 rd (.slice (B ⟨l,y,M⟩) n c) (.d_ q 0 Q ae)):
  ∃b:E dp,F b=n*q/\(∀m v,b[m]?=B v->w.cell? ((⟨l,y,M⟩:mX).add m)=B v)/\F ae=n/\(∀a∈ae,F a=q)/\
   ∀j a m o,ae[j]?=B a->a[m]?=B o->∃p,b[j*q+m]?=B p/\h2 rd p o:=by
 cases h with
 |nil=>exact cU
 |d_ _ _ _ _ _ _ p cR t u aj ay aA=>
  refine⟨(jG<|n*q).map λm=>p (m/q)<|m%q,dh,?_,cR,aj,?_⟩
  .intro m v ab;obtain⟨g,af,rfl⟩:=gG.1<|(gy ..).symm.trans ab;obtain⟨aw,rfl⟩:=ie.1 af;simp only[tl]at aw;simp only[zB];have k:0<q:=UQ (λh=>by subst h;simp at aw);have G:m/q<n:=Ob (by rw[re];exact aw);have s:=zC m k;have d:=e6 (l:=ae) (by omega:m/q<F ae);have cN:=aj _ (fi (by omega:m/q<F ae));have:=ay _ _ (m%q) _ d<|e6 I;rw[show y+m/q*q+m%q=y+m by have:=Oc m q;rw[re]at this;omega]at this;rw[iS];exact i _ _ _ this
  .intro j a m o d ad;have hi:=(ie.1 d).1;have cN:=aj a<|lp d;have aw:=(ie.1 ad).1;have aX:j*q+m<n*q:=by have:(j+1)*q<=n*q:=j1 _ I;rw[jZ]at this;omega
   refine⟨p j m,?_,aA _ _ _ _ d ad⟩;rw[gy,e6 (by simpa using aX)];simp only[zB,iq];have aG:(j*q+m)/q=j:=by rw[re,Nat.mul_add_div I,UM I];omega
   have aD:(j*q+m)%q=m:=by rw[re,UR,Oa I]
   rw[aG,aD]
def hK.append{rd:ez}{q:Nat}{P i:E dp}{ae k:E (E V)}(h:hK rd q P ae)(g:hK rd q i k)(cN:F P=F ae*q):hK rd q (P++i) (ae++k):=by
 refine⟨λa d=>(gq.1 d).elim (h.1 a)<|g.1 a,λj a m o d ad=>?_⟩;rw[p7]at d;split at d
 next hi=>have⟨p,G,b⟩:=h.2 j a m o d ad;refine⟨p,?_,b⟩;rwa[tj (ie.1 G).1]
 .rename_i hi;have⟨p,G,b⟩:=g.2 _ a m o d ad;refine⟨p,?_,b⟩;have e:j*q+m=F P+((j-F ae)*q+m):=by rw[cN,Nat.sub_mul];have:F ae*q<=j*q:=j1 _ I;omega
  rw[e,rc I];rwa[Nat.add_sub_cancel_left]
def B6{rd:ez}{q l n c:Nat}{aF:E dp}{ae:E (E V)}(h:hK rd q aF ae)(cR:F ae=n)(i:n<=c)(k:c<=maxLen)(ay:∀g v,aF[g]?=B v->g<n*q->rd l g=B v):h2 rd (.slice (B ⟨l,0,M⟩) n c) (.d_ q 0 n ae):=by
 refine .d_ l 0 n c q ae (λj m=>(aF[j*q+m]?).getD undef) cR i k h.1 (λj a m o d ad=>?_) λj a m o d ad=>?_
 .have⟨p,G,b⟩:=h.2 j a m o d ad;have hi:=(ie.1 d).1;have cN:=h.1 a<|lp d;have aw:=(ie.1 ad).1;have aX:j*q+m<n*q:=by have:(j+1)*q<=n*q:=j1 _ I;rw[jZ]at this;omega
  rw[G,gx];exact ay _ _ G aX
 .have⟨p,G,b⟩:=h.2 j a m o d ad;rwa[G]
def Sa(sz:Nat):cT->X (E (E V))
 |.c (.cY (.slice M 0 0))=>B []
 |.c (.d_ q 1 _ ae)=>if q=sz then B ae else M
 |_=>M
def TZ(sz:Nat):cT->X (E (E V))
 |.c (.cY (.slice M 0 0))=>B []
 |.c (.d_ q _ _ ae)=>if q=sz then B ae else M
 |_=>M
def art{rd:ez}{x:dY}{p:dp}{v:cT}{sz:Nat}{ae:E (E V)}(h:fM rd x p v)(d:TZ sz v=B ae):h2 rd p (.d_ sz 0 (F ae) ae):=by
 unfold TZ at d;split at d
 .cases d;have:=hw h;subst this;exact .nil _ _ _ dd
 .split at d
  next aj=>subst aj;cases d;exact aa3 h.1
  .cases d
 .cases d
def akJ{rd:ez}{x:dY}{p:dp}{v:cT}{sz:Nat}{ae:E (E V)}(h:fM rd x p v)(d:Sa sz v=B ae):h2 rd p (.d_ sz 0 (F ae) ae)/\(p=.slice M 0 0\/∃t,p=.slice (B t) (F ae) (F ae)):=by
 unfold Sa at d;split at d
 .cases d;have:=hw h;subst this;exact⟨.nil _ _ _ dd,.inl rfl⟩
 .split at d
  next aj=>subst aj;cases d;exact⟨aa3 h.1,by have a:=h.2;rw[MH h.1]at a;exact a⟩
  .cases d
 .cases d
theorem aeN{rd:ez}{w:d2}(k:∀l y v,rd l y=B v->w.cell? ⟨l,y,M⟩=B v){p:dp}{q:Nat}{Q:Nat}{ae:E (E V)}(h:h2 rd p (.d_ q 0 Q ae)):
  ∃t c aF,p=.slice t (F ae) c/\F ae<=c/\c<=maxLen/\hK rd q aF ae/\F aF=F ae*q/\(F ae=0\/∃d,t=B d/\∀m v,aF[m]?=B v->w.cell? (d.add m)=B v)\/(∃t c,p=.slice t 0 c/\ae=[]/\c<=maxLen):=by
 generalize a:V.d_ q 0 Q ae=o at h;cases h with
 |cY v=>cases a
 |nil ao t c b=>cases a;exact⟨t,c,[],.inr ef⟩
 |d_ l y n c ao z f cR g b aj ay aA=>cases a;have⟨aF,G,u,x,i,j⟩:=T1 k<|.d_ l y _ c q ae f cR g b aj ay aA;subst cR;exact⟨B ⟨l,y,M⟩,c,aF,.inl ⟨rfl,g,b,⟨i,j⟩,G,.inr cU⟩⟩
 |e1 l y s f ay aA=>cases a
 |xl=>cases a
def NG{u:dw}{w:d2}(b q e:f1)(j:n9)(ax:u.underlying b=B (.slice e))(hi:u.info? e=B j)(a t:X mX)(n aV c:Nat)(cR:n<=aV):
  (qz #[b,b] q #[.slice a n aV,.slice t 0 c]).run u w=.ok (.slice a n aV) w:=by
 cases t<;>cases a<;>simp[qz,run_underlying ax,sizeOf,typeInfo,hi,v3,Hz,loadCells,loadCellsFrom,storeCells,cR]
def Nr{rd:ez}{p:dp}{o:V}(h:h2 rd p o)(G:o.one=T):p.oneCell'=T:=adu (x:=⟨λ_=>(0,0),λ_=>(undef,undef)⟩) h.c G
def sO(q:Nat):Nat->E V->E (E V)
 |0,_=>[]
 |n+1,a=>a.take q::sO q n (a.drop q)
def V.F_:V->X V
 |.cY v=>B<|.cY v
 |.d_ q _ n ae=>B<|.d_ q 0 n ae
 |.e1 a=>B<|.e1 a
 |_=>M
def Gb{rd:ez}{x:dY}{p:dp}{a o:V}(h:fA rd x p a)(ad:a.F_=B o):h2 rd p o:=by
 cases a<;>simp only[V.F_,reduceCtorEq]at ad
 case cY=>cases ad;exact h
 case d_=>cases ad;exact h.1
 case e1=>cases ad;exact h
def y6:E V->X (E V)
 |[]=>B []
 |a::ae=>match a.F_,y6 ae with
  |some o,B b=>B<|o::b
  |_,_=>M
def Ga:∀(ae b:E V),y6 ae=B b->F ae=F b/\∀(m:Nat) (o:V),b[m]?=B o->∃a,ae[m]?=B a/\a.F_=B o
 |[],b,h=>by cases h;exact⟨rfl,dh⟩
 |a::ae,b,h=>by
  simp only[y6]at h;split at h
  .rename_i k j G d;cases h;have⟨g,i⟩:=Ga ae j d;refine⟨by simp[g],λm o ad=>?_⟩;cases m with
   |zero=>cases ad;exact⟨a,rfl,G⟩
   |succ m=>exact i m o ad
  .cases h
def ake(q:Nat):∀(n:Nat) (a:E V),F (sO q n a)=n
 |0,_=>rfl
 |n+1,a=>by simp[sO,ake q n]
def FO(q:Nat):∀(n:Nat) (b:E V) (j:Nat) (a:E V),n*q<=F b->(sO q n b)[j]?=B a->F a=q/\∀(m:Nat) (o:V),a[m]?=B o->b[j*q+m]?=B o
 |0,b,j,a,_,h=>by simp[sO]at h
 |n+1,b,j,a,cN,h=>by
  rw[jZ]at cN;cases j with
  |zero=>
   simp only[sO,List.getElem?_cons_zero,h0]at h;subst h;refine⟨fv,λm o ad=>?_⟩;rw[jd]at ad;split at ad
   .simpa using ad
   .cases ad
  |succ j=>simp only[sO,VN]at h;have⟨G,d⟩:=FO q n (b.drop q) j a fv h;refine⟨G,λm o ad=>?_⟩;have:=d m o ad;rw[j2]at this;rw[show(j+1)*q+m=q+(j*q+m) by rw[jZ];omega];exact this
def ZI(u:dw)(q:cP)(e:f1)(b:Nat)(i:E Nat)(jF:E (Nat×hp)):X (E (E V)):=match u.info? e,zn q jF with
 |some a,B k=>match a.zero with
  |some an=>match Bs (λj=>B (j*a.size,a.size)) (((UT<|b*a.size).map (an.cells[·%an.cells.size]!)).toList.map V.cY) k with
   |some d=>match y6 d with
    |some g=>B<|(sO a.size b g).map<|kp i
    |none=>M
   |none=>M
  |none=>M
 |_,_=>M
def FJ{rd:ez}{p:dp}{a:V}(g:Nat)(h:h2 rd p a):h2 rd p (rJ g a):=by
 unfold rJ;split
 .exact h
 .split
  .cases h;exact .nil _ _ _ dd
  .cases h with
   |nil _ t c b=>exact .nil _ t c b
   |d_ l y n c _ _ p cR d b aj ay aA=>exact .d_ l y _ c _ _ p cR d b aj ay aA
   |xl _ _ _ _ h _=>exact h
  .exact h
def g2{ag:Type}(s:E ag)(t l:Int):X (E ag):=if 0<=t/\t<=l/\l<=F s then B ((s.take l.toNat).drop t.toNat)else M
def ej{ag:Type}(d:Nat)(a b:E ag):X (E ag):=if(F a+F b)*d<=140737488355328/\F a+F b<=140737488355328 then B (a++b)else M
variable{ag:Type}
def Bw(u:dw)(q:cP)(y:dy):X (E (E V)×Int):=match y.op with
 |.indexAddr d a o=>match dZ q a,dZ q o,u.underlying d with
  |some (.c (.d_ sz _ _ ae)),B (.c (.cY (.int _ j))),B (.slice e)=>match u.info? e with
   |some b=>if b.size=sz then B (ae,j)else M
   |none=>M
  |_,_,_=>M
 |_=>M
theorem aaC{q:cP}{y:dy}{f:ag->E V}{s:E ag}{j:Int}{e:ag}(b:di s j=B e)(h:Bw u q y=B (s.map f,j)):jP u y q (.c (.e1 (f e))):=by
 unfold Bw at h;split at h
 .rename_i p a o cK;split at h
  .rename_i sz tag Q ae g l i d ad aA;split at h
   .rename_i m k;split at h
    next aj=>cases h;have⟨dI,G⟩:=F9 b;exact(aqH tag sz Q _ j (f e) cK d ad aA cU dI cU).jC
    .cases h
   .cases h
  .cases h
 .cases h
def dT.fQ{D:Type}(N:dT)(f:cP->dy->X D):X D:=match N.op with
 |some (_,y)=>f N.d1 y
 |none=>M
def jb{D:Type}{f:cP->dy->X D}{l:D}(h:N.fQ f=B l){a:Array dy}{y:dy}(cK:N.op=B (a,y)):f N.d1 y=B l:=by unfold dT.fQ at h;rwa[cK]at h
def Fh(f:ag->E V){s:E ag}{j:Int}{e:ag}(a:di s j=B e)(h:N.fQ (Bw u)=B (s.map f,j))(ar:N.ft n=T)(g:TS u K n (N.ret (.c (.e1 (f e)))) ah):TS u K n N ah:=l8 _ ar (λ_ _ cK=>aaC a<|jb h cK) g
def qP(q:cP)(i:Int):X hp->X (X (g0×Int)×Int)
 |none=>B (M,i)
 |some a=>match dZ q a with
  |some (.c (.cY (.int g j)))=>B (B (g,j),j)
  |_=>M
def Hp(u:dw)(q:cP)(y:dy):X (Nat×E (E V)×Int×Int):=match y.op with
 |.slice g a d hi M=>match dZ q a,u.underlying g with
  |some (.c (.d_ sz _ Q ae)),B (.slice e)=>match u.info? e,qP q 0 d,qP q Q hi with
   |some b,B (_,t),B (_,l)=>if b.size=sz then B (sz,ae,t,l)else M
   |_,_,_=>M
  |_,_=>M
 |_=>M
theorem sN{q:cP}{i j:Int}{a:X hp}{v:X (g0×Int)}(h:qP q i a=B (v,j)):a.map (dZ q)=v.map (λz=>B (int z.1 z.2))/\j=(v.map (·.2)).getD i:=by
 unfold qP at h;split at h
 .cases h;exact cU
 .split at h
  next o g m ad=>cases h;exact⟨by simp[ad,int],rfl⟩
  .cases h
theorem aaM{q:cP}{y:dy}{f:ag->E V}{sz:Nat}{s i:E ag}{t l:Int}(b:g2 s t l=B i)(h:Hp u q y=B (sz,s.map f,t,l)):jP u y q (.c (.d_ sz 0 (F i) (i.map f))):=by
 unfold g2 at b;split at b
 .rename_i g;cases b;unfold Hp at h;split at h
  .rename_i K a C hi cK;split at h
   .rename_i D tag Q ae x d aA;split at h
    .rename_i A k o m p z G j;split at h
     next aj=>cases h;have⟨aC,au⟩:=sN G;have⟨aL,aT⟩:=sN j;exact alp sz tag Q s k m t l cK d aC aL au aT aA cU g.1 g.2.1 g.2.2
     .cases h
    .cases h
   .cases h
  .cases h
 .cases b
def aiA(f:ag->E V)(sz:Nat){s a:E ag}{t l:Int}(b:g2 s t l=B a)(h:N.fQ (Hp u)=B (sz,s.map f,t,l))(ar:N.ft n=T)(g:TS u K n (N.ret (.c (.d_ sz 0 (F a) (a.map f)))) ah):TS u K n N ah:=l8 _ ar (λ_ _ cK=>aaM b<|jb h cK) g
def kb(f:i5)(q:cP):cP:=match n1 f q with
 |some ao=>ao
 |none=>⟨[],[]⟩
variable{i S s eB:Type}
def X8(f:i5)(a:i->E (Nat×cT))(iO:i->E (Nat×eD))(m:i->X S)(r:S)(aw:∀v,m v=B r->TS u K n (N.T8 ((kb f N.d1).kf (a v) (iO v))) ah)
 (d:TS u K n N.NL (vG u K n N.rest ah (λv=>(kb f N.d1).kf (a v)<|iO v) m r)):TS u K n N ah:=aip _ m r aw d
def aiH{c:k7}{q:cP}{a:fE->cP->Prop}(h:ht u K n c q ah)(g:∀e q,ah e q->∃ao,(∀t w,R K n t w q->R K n t w ao)/\a e ao):ht u K n c q a:=λt w r=>wp_mono (h t w r) λk j m ⟨l,d,C⟩=>let⟨i,G,b⟩:=g _ _ C;⟨i,G _ _ d,b⟩
def sU(u:dw)(K:fb)(n:Nat)(eU:E oP)(ah:fE->cP->Prop)(y:s->cP)(a:s⊕S)(av:fE)(C:eB->S)(i:eB->cP):fE->cP->Prop
 |.normal,b=>∃ao,a=.inl ao/\∀t w,R K n t w b->R K n t w (y ao)
 |e,b=>(e=av/\∃l,a=.inr (C l)/\∀t w,R K n t w b->R K n t w (i l))\/((∃o,a=.inr o)/\mE u K n eU ah e b)
def wO(i:s->X (s⊕S))(f:i5)(m:s->E (Nat×cT))(iO:s->E (Nat×eD))(k:s)(D:S)(av:fE)(C:eB->S)(P:i5)(ag:eB->E (Nat×cT))(aa:eB->E (Nat×eD))(ay:dq i k=B D)(Q:N.vE=T)(dI:n1 f N.d1=B ((kb f N.d1).kf (m k) (iO k)))
  (p:∀q a,i q=B a->(∀o,a=.inr o->o=D)->TS u K n (N.body<|(kb f N.d1).kf (m q)<|iO q) (sU u K n N.rest ah (λq=>(kb f N.d1).kf (m q)<|iO q) a av C λl=>(kb P N.d1).kf (ag l)<|aa l))
  (ai:∀l,D=C l->TS u K n (.mk N.rest av<|(kb P N.d1).kf (ag l)<|aa l) ah):TS u K n N ah:=by
 unfold dT.vE at Q;split at Q
 .rename_i c eU ae;simp only[dT.body,dT.rest,dT.d1]at p dI ai;have⟨A,aq⟩:=MW ay;generalize al:(λq=>(kb f ae).kf (m q)<|iO q)=y at p;have am:∀q,(kb f ae).kf (m q) (iO q)=y q:=λq=>by rw[<-al]
  simp only[am]at dI p;have ar:ht u K n (.loop c) (y k) (mE u K n eU ah):=by
   refine Yg (z:=Nat×s) (λz q=>mM i z.1 z.2=B D/\∀t w,R K n t w q->R K n t w (y z.2)) (λz=>z.1) (A,k) ⟨aq,λ_ _ a=>a⟩ ?_;rintro⟨g,q⟩ au ⟨af,hS⟩;cases g with
   |zero=>cases af
   |succ g=>
    simp only[mM]at af;cases aj:i q with
    |none=>rw[aj]at af;cases af
    |some a=>
     rw[aj]at af;have an:=p q a aj (λo ad=>by subst ad;simpa using af);have aJ:=λt w ab=>an t w<|hS t w ab
     refine aiH (ah:=_) aJ λe x ap=>?_
     have b:∀e,e≠.normal->((e=av/\∃l,a=.inr (C l)/\∀t w,R K n t w x->R K n t w ((kb P ae).kf (ag l)<|aa l))\/((∃o,a=.inr o)/\mE u K n eU ah e x))->∃ao,(∀t w,R K n t w x->R K n t w ao)/\mE u K n eU ah e ao:=by
      rintro e _ (⟨rfl,l,d,ak⟩|⟨_,d⟩)
      .subst d;exact⟨_,ak,ai l (by simpa using af.symm)⟩
      .exact⟨_,λ_ _ a=>a,d⟩
     cases e with
     |normal=>obtain⟨ao,rfl,d⟩:=ap;exact⟨x,λ_ _ a=>a,(g,ao),⟨af,d⟩,Nat.lt_succ_self g⟩
     |exit j=>exact b _ dh ap
     |goto j=>exact b _ dh ap
     |ret=>exact b _ dh ap
     |panic j=>exact b _ dh ap
     |outgrown=>exact b _ dh ap
  exact λt w ab=>ar t w<|ab.rK f dI
 .cases Q
variable{eU:E oP}{y:s->cP}{a:s⊕S}{av:fE}{C:eB->S}{i:eB->cP}
def Ff(ao:s)(f:i5)(d:a=.inl ao)(b:N.vx=T)(g:n1 f N.d1=B (y ao)):TS u K n N (sU u K n eU ah y a av C i):=by
 unfold dT.vx at b;split at b
 .exact⟨ao,d,λt w j=>j.rK f g⟩
 .cases b
theorem Yc{o:S}(d:a=.inr o)(b:N.sL=T)(g:TS u K n (N.l_ eU) ah):TS u K n N (sU u K n eU ah y a av C i):=by
 unfold dT.sL at b;split at b
 .exact .inr ⟨cU,g⟩
 .exact .inr ⟨cU,g⟩
 .cases b
def dT.gQ:dT->fE
 |.mk _ e _=>e
 |.iZ=>.outgrown
def aie(l:eB)(f:i5)(d:a=.inr (C l))(b:N.sL=T)(j:N.gQ=av)(k:n1 f N.d1=B (i l)):TS u K n N (sU u K n eU ah y a av C i):=by
 unfold dT.sL at b;split at b
 .exact .inl ⟨j,l,d,λt w g=>g.rK f k⟩
 .exact .inl ⟨j,l,d,λt w g=>g.rK f k⟩
 .cases b
def L6(d:dw)(q:cP)(y:dy):X (nL×g0×g0×Int×Int):=match y.op with
 |.binOp op _ a o _=>match dZ q a,dZ q o with
  |some (.c (.cY (.int g A))),B (.c (.cY (.int b j)))=>B (op,g,b,A,j)
  |_,_=>M
 |_=>M
def o7{op:nL}{g b:g0}{A j:Int}{v:cT}{z:Prop}(Y:z)(ab:MG op g A j=B (v,z))(af:op=.shl\/op=.shr\/b=g)(h:N.fQ (L6 u)=B (op,g,b,A,j))(ar:N.ft n=T)(k:TS u K n (N.ret v) ah):TS u K n N ah:=by
 refine l8 v ar (λt y cK=>?_) k;have G:=jb h cK;unfold L6 at G;split at G
 .rename_i s x a o C i;split at G
  next m q p l d ad=>cases G;exact(B2 A j af i d ad ab Y).jC
  .cases G
 .cases G
structure hs(q ao:cP):Prop where
 t:∀g v,cO q.tmps g=B v->cO ao.tmps g=B v
 h:∀g v,cO q.Y g=B v->cO ao.Y g=B v
def lA(q ao:cP):Prop:=(∀g,cO q.tmps g=cO ao.tmps g)/\∀g,cO q.Y g=cO ao.Y g
def lA.refl(q:cP):lA q q:=⟨λ_=>rfl,λ_=>rfl⟩
def lA.symm{q ao:cP}(h:lA q ao):lA ao q:=⟨λg=>(h.1 g).symm,λg=>(h.2 g).symm⟩
def lA.trans{q ao b:cP}(h:lA q ao)(g:lA ao b):lA q b:=⟨λa=>(h.1 a).trans (g.1 a),λa=>(h.2 a).trans (g.2 a)⟩
def hs.jU{q ao b:cP}(h:hs q ao)(g:lA ao b):hs q b:=⟨λa v ab=>(g.1 a).symm.trans (h.t a v ab),λa v ab=>(g.2 a).symm.trans (h.h a v ab)⟩
theorem R.jU{K:fb}{n:Nat}{t:Act}{w:d2}{q ao:cP}(h:R K n t w q)(g:lA q ao):R K n t w ao:=by
 have⟨x,h⟩:=h;have u:∀l y,h7 x ao.Y l y↔h7 x q.Y l y:=λl y=>⟨λ⟨i,r,G,a⟩=>⟨i,r,(g.2 i).trans G,a⟩,λ⟨i,r,G,a⟩=>⟨i,r,(g.2 i).symm.trans G,a⟩⟩
 have k:fd K x ao.Y w=fd K x q.Y w:=by
  funext l y;unfold fd;by_cases d:h7 x q.Y l y
  .rw[dE d,dE cU]
  .rw[dA d,dA cU]
 refine⟨x,h.defers,h.size,h.oo,⟨h.eV.gJ,λi r b=>?_,λl y d=>h.eV.may l y cU,λi j r s l y aR G a=>h.eV.lR i j r s l y aR ((g.2 i).trans G)<|(g.2 j).trans a,λi o p b=>h.eV.rL i o p<|(g.2 i).trans b,λi r b=>h.eV.iA i r<|(g.2 i).trans b⟩,λm v ab=>?_⟩
 .rw[k];exact h.eV.gg i r<|(g.2 i).trans b
 .rw[k];exact h.tmps m v<|(g.1 m).trans ab
def km.jU{u:dw}{K:fb}{n:Nat}{ops:Array dy}{y:dy}{q ao a:cP}(h:km u K n ops y q ao)(g:lA ao a):km u K n ops y q a:=λt w r b ah i=>h t w r b ah λd aE j=>i d aE<|j.jU g
def hs.dZ{q ao:cP}(h:hs q ao){a:hp}{v:cT}(d:dZ q a=B v):dZ ao a=B v:=by
 cases a with
 |tmp b=>
  simp only[Go.Proofs.YtddmdeaegbfhaaaGreat.dZ]at d⊢;split at d
  next ax=>rw[dE ax];exact h.t b v d
  .cases d
 |const c=>exact d
 |func f=>exact d
 |global x=>simp[Go.Proofs.YtddmdeaegbfhaaaGreat.dZ]at d
def hs.Uo{q ao:cP}(h:hs q ao){a:Nat}{v:cT}(g:(if a<2000000 then cO q.tmps a else M)=B v):(if a<2000000 then cO ao.tmps a else M)=B v:=by
 split at g
 next ax=>rw[dE ax];exact h.t a v g
 .cases g
def hs.guard{q ao:cP}(h:hs q ao){ops:Array dy}{y:dy}{l:Bool}(ar:hF ops y q=B l):hF ops y ao=B l:=by
 unfold hF at*;split
 next cR=>rw[cR]at ar;exact ar
 .rename_i m i cR;rw[cR]at ar;simp only at ar;split at ar
  .rename_i d a;try rw[a]
   try simp only
   split at ar
   .rename_i g ax;try rw[ax]
    try simp only
    split at ar
    next b cN=>rwa[h.Uo cN]
    next cN=>rwa[h.Uo cN]
    .cases ar
   .cases ar
  .cases ar
def hs.jC{q ao:cP}(h:hs q ao){u:dw}{y:dy}{v:cT}(Y:jP u y q v):jP u y ao v:=by intro x rd t w ab;exact Y x rd t w ⟨λa o d ad=>ab.op a o d<|h.dZ ad,ab.oy,λi r b=>ab.gg i r<|h.h i r b⟩
def V.ho(i:Nat):V->V
 |.dk e=>if e=i then .any else .dk e
 |.row e n=>if e=i then .any else .row e n
 |.sub e q t n=>if e=i then .any else .sub e q t n
 |.hn e q j y=>if e=i then .any else .hn e q j y
 |.gQ e=>if e=i then .any else .gQ e
 |.hV e j y=>if e=i then .any else .hV e j y
 |a=>a
def V.hv(i:Nat):V->V
 |.gf f b=>.gf f<|b.map<|V.ho i
 |a=>a.ho i
def cP.iJ(q:cP)(A:V->V):cP:=⟨q.tmps.map λz=>(z.1,z.2.map A),q.Y.map λz=>(z.1,z.2.map A)⟩
def V.Hl:V->Bool
 |.any=>Z
 |_=>T
def V.xm:V->Bool
 |.gf _ b=>b.all V.Hl
 |a=>a.Hl
def aba{i:Nat}{a:V}(h:a.hZ (·!=i)=T):a.ho i=a:=by cases a<;>simp[V.hZ,V.ho]at h⊢<;>exact λe=>absurd e h
theorem sW{ag:Type}{A:ag->ag}:∀{s:E ag},(∀a∈s,A a=a)->s.map A=s
 |[],_=>rfl
 |a::s,h=>by rw[hx,h a dh,sW λo ad=>h o cU]
def y8{i:Nat}{a:V}(h:∀f b,a≠.gf f b):a.hv i=a.ho i:=by cases a<;>first|rfl|exact absurd rfl (h _ _)
def MK{i:Nat}{a:V}(h:∀f b,a≠.gf f b):∀f b,a.ho i≠.gf f b:=by
 intro f b;cases a with
 |gf f b=>exact absurd rfl (h _ _)
 |dk e=>simp only[V.ho];split<;>intro C<;>cases C
 |row e n=>simp only[V.ho];split<;>intro C<;>cases C
 |sub e q t n=>simp only[V.ho];split<;>intro C<;>cases C
 |hn e q j y=>simp only[V.ho];split<;>intro C<;>cases C
 |gQ e=>simp only[V.ho];split<;>intro C<;>cases C
 |hV e j y=>simp only[V.ho];split<;>intro C<;>cases C
 |_=>intro C;cases C
def NK{z:Nat->Bool}{a:V}(h:∀f b,a≠.gf f b):a.fn z=a.hZ z:=by cases a<;>first|rfl|exact absurd rfl (h _ _)
def ar0{a:V}(h:∀f b,a≠.gf f b):a.xm=a.Hl:=by cases a<;>first|rfl|exact absurd rfl (h _ _)
theorem FP(a:V):(∃f b,a=.gf f b)\/∀f b,a≠.gf f b:=by
 cases a with
 |gf f b=>exact .inl cU
 |_=>exact .inr λf b C=>lL
def al4{i:Nat}{a:V}(h:a.fn (·!=i)=T):a.hv i=a:=by
 rcases FP a with⟨f,b,rfl⟩|d
 .simp only[V.hv];rw[sW λo ad=>aba<|fp.1 h o ad]
 .rw[y8 d];rw[NK d]at h;exact aba h
def aa9{i:Nat}{a o:V}(ad:o.Hl=T)(h:a.ho i=o):a=o:=by cases a<;>simp only[V.ho]at h<;>(try split at h)<;>(subst h)<;>first|rfl|(cases ad)
def BE{ag:Type}{A:ag->ag}{z:ag->Bool}(b:∀a o,z o=T->A a=o->a=o):∀{s g:E ag},g.all z=T->s.map A=g->s=g
 |[],g,_,h=>qe
 |a::s,[],_,h=>o0
 |a::s,o::g,Y,h=>by simp only[hx,tm]at h;simp only[v1,fz]at Y;rw[b a o Y.1 h.1,BE b Y.2 h.2]
def al2{i:Nat}{a o:V}(ad:o.xm=T)(h:a.hv i=o):a=o:=by
 rcases FP a with⟨f,j,rfl⟩|d
 .simp only[V.hv]at h;subst h;exact congrArg (V.gf f) (BE (z:=V.Hl) (λt l g b=>aa9 g b) ad rfl)
 .rw[y8 d]at h;rw[ar0 (h▸MK d)]at ad;exact aa9 ad h
def abb{i:Nat}{z:Nat->Bool}{a:V}(h:a.hZ z=T):(a.ho i).hZ z=T:=by cases a<;>simp only[V.ho]<;>(try split)<;>first|exact h|rfl
def al5{i:Nat}{z:Nat->Bool}{a:V}(h:a.fn z=T):(a.hv i).fn z=T:=by
 rcases FP a with⟨f,b,rfl⟩|d
 .simp only[V.hv,V.fn,Ch];exact fp.2 λo ad=>abb<|fp.1 h o ad
 .rw[y8 d,NK (MK d)];rw[NK d]at h;exact abb h
def aa_(t l:Nat)(a:V):(a.ho t).ho l=(a.ho l).ho t:=by
 cases a with
 |dk e=>by_cases G:e=t<;>by_cases b:e=l<;>first|(simp only[V.ho,dE G,dE b];done)|(simp only[V.ho,dE G,dA b];done)|(simp only[V.ho,dA G,dE b];done)|(simp only[V.ho,dA G,dA b];done)
 |row e n=>by_cases G:e=t<;>by_cases b:e=l<;>first|(simp only[V.ho,dE G,dE b];done)|(simp only[V.ho,dE G,dA b];done)|(simp only[V.ho,dA G,dE b];done)|(simp only[V.ho,dA G,dA b];done)
 |sub e q a n=>by_cases G:e=t<;>by_cases b:e=l<;>first|(simp only[V.ho,dE G,dE b];done)|(simp only[V.ho,dE G,dA b];done)|(simp only[V.ho,dA G,dE b];done)|(simp only[V.ho,dA G,dA b];done)
 |hn e q j y=>by_cases G:e=t<;>by_cases b:e=l<;>first|(simp only[V.ho,dE G,dE b];done)|(simp only[V.ho,dE G,dA b];done)|(simp only[V.ho,dA G,dE b];done)|(simp only[V.ho,dA G,dA b];done)
 |gQ e=>by_cases G:e=t<;>by_cases b:e=l<;>first|(simp only[V.ho,dE G,dE b];done)|(simp only[V.ho,dE G,dA b];done)|(simp only[V.ho,dA G,dE b];done)|(simp only[V.ho,dA G,dA b];done)
 |hV e j y=>by_cases G:e=t<;>by_cases b:e=l<;>first|(simp only[V.ho,dE G,dE b];done)|(simp only[V.ho,dE G,dA b];done)|(simp only[V.ho,dA G,dE b];done)|(simp only[V.ho,dA G,dA b];done)
 |_=>rfl
def al3(t l:Nat)(a:V):(a.hv t).hv l=(a.hv l).hv t:=by
 rcases FP a with⟨f,b,rfl⟩|d
 .simp only[V.hv,xD];exact congrArg (V.gf f) (pw λo _=>aa_ t l o)
 .rw[y8 d,y8 d,y8 (MK d),y8 (MK d),aa_]
def ae1{A:V->V}{z:V->Bool}(b:∀a,z a=T->A a=a){v:cT}(h:v.eY z=T):v.map A=v:=by
 cases v with
 |c a=>exact congrArg cT.c<|b a h
 |agg d=>exact congrArg cT.agg (sW λo ad=>b o<|fp.1 h o ad)
 |eu g=>refine congrArg cT.eu (sW λo ad=>?_);have:=fp.1 h o ad;have⟨l,d⟩:=o;exact congrArg (Prod.mk l) (sW λan N=>b an<|fp.1 this an N)
def asf{A:V->V}{z:V->Bool}(b:∀a o,z o=T->A a=o->a=o){v p:cT}(h:p.eY z=T)(e:v.map A=p):v=p:=by
 cases v with
 |c a=>subst e;exact congrArg cT.c<|b a _ h rfl
 |agg g=>subst e;exact congrArg cT.agg<|BE b h rfl
 |eu k=>subst e;refine congrArg cT.eu (BE (z:=λa:Bool×E V=>a.2.all z) (λt l j i=>?_) h rfl);have⟨d,g⟩:=t;subst i;exact congrArg (Prod.mk d)<|BE b j rfl
def ae0{A:V->V}{z:V->Bool}(b:∀a,z a=T->z (A a)=T){v:cT}(h:v.eY z=T):(v.map A).eY z=T:=by
 cases v with
 |c a=>exact b a h
 |agg d=>simp only[cT.map,cT.eY,Ch];exact fp.2 λo ad=>b o<|fp.1 h o ad
 |eu g=>
  simp only[cT.map,cT.eY,Ch];refine fp.2 λo ad=>?_
  simp only[HA,Ch];exact fp.2 λan N=>b an<|fp.1 (fp.1 h o ad) an N
theorem asg{A g:V->V}(h:∀a,A (g a)=g (A a))(v:cT):(v.map A).map g=(v.map g).map A:=by
 cases v with
 |c a=>simp only[cT.map,h]
 |agg b=>simp only[cT.map,xD];exact congrArg cT.agg cU
 |eu d=>simp only[cT.map,xD];exact congrArg cT.eu cU
def aem{A:V->V}{z:V->Bool}(b:∀a,z a=T->A a=a){v:eD}(h:v.eY z=T):v.map A=v:=by
 cases v with
 |box d=>exact congrArg eD.box (sW λo ad=>b o<|fp.1 h o ad)
 |_=>rfl
def arn{A:V->V}{z:V->Bool}(b:∀a o,z o=T->A a=o->a=o){v p:eD}(h:p.eY z=T)(e:v.map A=p):v=p:=by
 cases v with
 |box d=>subst e;exact congrArg eD.box<|BE b h rfl
 |_=>subst e;rfl
def ael{A:V->V}{z:V->Bool}(b:∀a,z a=T->z (A a)=T){v:eD}(h:v.eY z=T):(v.map A).eY z=T:=by
 cases v with
 |box d=>simp only[eD.map,eD.eY,Ch];exact fp.2 λo ad=>b o<|fp.1 h o ad
 |_=>rfl
theorem aro{A g:V->V}(h:∀a,A (g a)=g (A a))(v:eD):(v.map A).map g=(v.map g).map A:=by
 cases v with
 |box b=>simp only[eD.map,xD];exact congrArg eD.box cU
 |_=>rfl
def MV{ag D:Type}(f:ag->D):∀(s:E (Nat×ag)) (g:Nat),cO (s.map λz=>(z.1,f z.2)) g=(cO s g).map f
 |[],_=>rfl
 |(t,a)::s,g=>by
  rw[hx,io,io];split
  .rfl
  .exact MV f s g
def r0{z C:Nat->Bool}(h:∀i,z i=T->C i=T){a:V}(d:a.hZ z=T):a.hZ C=T:=by
 cases a<;>simp only[V.hZ]at d⊢<;>first|exact h _ d|skip
 rename_i q tag n ae;rcases tag with _|_|b
 .rfl
 .rfl
 .exact h _ d
def Hd{z C:Nat->Bool}(h:∀i,z i=T->C i=T){a:V}(d:a.fn z=T):a.fn C=T:=by
 cases a with
 |gf f b=>exact fp.2 λo ad=>r0 h<|fp.1 d o ad
 |cY v=>exact r0 (a:=.cY v) h d
 |d_ t l c i=>exact r0 (a:=.d_ t l c i) h d
 |e1 t=>exact r0 (a:=.e1 t) h d
 |box t l=>exact r0 (a:=.box t l) h d
 |dk t=>exact r0 (a:=.dk t) h d
 |row t l=>exact r0 (a:=.row t l) h d
 |ip t l c=>exact r0 (a:=.ip t l c) h d
 |sub t l c i=>exact r0 (a:=.sub t l c i) h d
 |hn t l c i=>exact r0 (a:=.hn t l c i) h d
 |gQ t=>exact r0 (a:=.gQ t) h d
 |hV t l c=>exact r0 (a:=.hV t l c) h d
 |any=>rfl
def V.lX:E Nat->V->V
 |[],a=>a
 |l::s,a=>V.lX s<|a.hv l
def nH(s:E Nat)(i:Nat):Bool:= !s.contains i
def Gj:∀{s:E Nat} {a:V},a.fn (nH s)=T->a.lX s=a
 |[],_,_=>rfl
 |l::s,a,h=>by have G:a.fn (·!=l)=T:=Hd (λi b=>by simp[nH]at b⊢;exact b.1) h;have d:a.fn (nH s)=T:=Hd (λi b=>by simp[nH]at b⊢;exact b.2) h;rw[V.lX,al4 G];exact Gj d
def SF:∀{s:E Nat} {a o:V},o.xm=T->a.lX s=o->a=o
 |[],_,_,_,h=>h
 |l::s,a,o,ad,h=>al2 ad<|SF (s:=s) (a:=a.hv l) ad h
def Gk:∀{s:E Nat} {z:Nat->Bool} {a:V},a.fn z=T->(a.lX s).fn z=T
 |[],_,_,h=>h
 |l::s,z,a,h=>Gk (s:=s) (z:=z) (a:=a.hv l)<|al5 h
def abc:∀(s:E Nat) (t:Nat) (a:V),(a.hv t).lX s=(a.lX s).hv t
 |[],_,_=>rfl
 |l::s,t,a=>by simp only[V.lX];rw[al3 t l,abc s t]
def SG:∀(t l:E Nat) (a:V),(a.lX t).lX l=(a.lX l).lX t
 |[],_,_=>rfl
 |c::t,l,a=>by simp only[V.lX];rw[SG t l,abc l c]
structure pG where
 m9:E Nat
 gJ:E Nat
 SM:E Nat
 kI:E (Nat×Nat)
 NB:E (Nat×Nat×V)
structure ec where
 need:cP
 dst:X Tmp
 v:cT
 hG:X (Nat×eD)
 iA:Bool
 li:X pG
 te:E (Nat×eD)
def pG.res(l:pG)(g:Nat)(r:eD):eD:=if l.gJ.contains g then r else r.map (V.lX l.m9)
def ec.pre(i:ec)(q:cP):cP:=match i.li with
 |some l=>⟨q.tmps.map λz=>(z.1,z.2.map<|V.lX l.m9),q.Y.map λz=>(z.1,l.res z.1 z.2)⟩
 |none=>q
def uj:E (Nat×eD)->cP->cP
 |[],q=>q
 |(l,r)::s,q=>(uj s q).f3 l r
def Hh:∀(s:E (Nat×eD)) (q:cP),(uj s q).tmps=q.tmps
 |[],_=>rfl
 |(_,_)::s,q=>Hh s q
def Ub:∀(s:E (Nat×eD)) (q:cP) (g:Nat),cO (uj s q).Y g=match cO s g with
  |some r=>B r
  |none=>cO q.Y g
 |[],_,_=>rfl
 |(l,r)::s,q,g=>by
  simp only[uj,cP.f3,kZ,io];split
  .rfl
  .exact Ub s q g
def ec.cL(i:ec)(q:cP):cP:=match i.hG with
 |some (l,r)=>(uj i.te<|(i.pre q).f3 l r).put i.dst i.v
 |none=>(uj i.te<|i.pre q).put i.dst i.v
def ec.kt(i:ec)(ag:X cT):X cT:=match i.li with
 |some l=>ag.map<|cT.map<|V.lX l.m9
 |none=>ag
def ec.nq(i:ec)(g:Nat)(ag:X eD):X eD:=match i.li with
 |some l=>ag.map<|l.res g
 |none=>ag
def ec.oC(i:ec)(g:Nat):X eD:=match cO i.te g with
 |some r=>B r
 |none=>match i.hG with
  |some (l,r)=>if l=g then B r else M
  |none=>M
def ec.lt(i:ec)(g:Nat)(ag:X cT):X cT:=if i.dst=B g then B i.v else i.kt ag
def ec.qu(i:ec)(g:Nat)(ag:X eD):X eD:=match i.oC g with
 |some r=>B r
 |none=>i.nq g ag
def ug(q:cP)(i:X Tmp)(v:cT):(q.put i v).Y=q.Y:=Lj
def TK(i:ec)(q:cP)(g:Nat):cO (i.pre q).tmps g=i.kt (cO q.tmps g):=by
 unfold ec.pre ec.kt;cases i.li with
 |none=>rfl
 |some l=>exact MV _ _ _
def abn{ag D:Type}(f:Nat->ag->D):∀(s:E (Nat×ag)) (g:Nat),cO (s.map λz=>(z.1,f z.1 z.2)) g=(cO s g).map (f g)
 |[],_=>rfl
 |(t,a)::s,g=>by
  simp only[hx,io];split
  next h=>subst h;rfl
  .exact abn f s g
def G5(i:ec)(q:cP)(g:Nat):cO (i.pre q).Y g=i.nq g (cO q.Y g):=by
 unfold ec.pre ec.nq;cases i.li with
 |none=>rfl
 |some l=>exact abn _ _ _
def ql(i:ec)(q:cP)(g:Nat):cO (i.cL q).tmps g=i.lt g (cO q.tmps g):=by
 unfold ec.lt;rw[<-TK];unfold ec.cL;cases i.hG with
 |none=>
  cases a:i.dst with
  |none=>simp[cP.put,Hh]
  |some b=>simp only[ov,Hh];simp
 |some z=>
  cases a:i.dst with
  |none=>simp[cP.put,cP.f3,Hh]
  |some b=>simp only[ov,Hh];simp[cP.f3]
def oj(i:ec)(q:cP)(g:Nat):cO (i.cL q).Y g=i.qu g (cO q.Y g):=by
 unfold ec.qu ec.oC;rw[<-G5];unfold ec.cL;cases i.hG with
 |none=>simp only[ug,Ub];cases cO i.te g<;>rfl
 |some z=>
  have⟨l,r⟩:=z;simp only[ug,Ub,cP.f3,kZ];cases cO i.te g with
  |some r=>rfl
  |none=>simp only;split<;>rfl
def Zs{q ao:cP}(i:ec)(h:lA q ao):lA (i.cL q) (i.cL ao):=⟨λg=>by rw[ql,ql,h.1],λg=>by rw[oj,oj,h.2]⟩
def st(i:Nat)(q:cP):Prop:=nh q i (B i)
def ec.name(i:ec):Nat:=(i.hG.map (·.1)).getD 0
def ec.all(i:ec):E (Nat×eD):=i.hG.toList++i.te
def xw{i:ec}{g:Nat}{r:eD}(h:i.oC g=B r):(g,r)∈i.all:=by
 unfold ec.oC at h;unfold ec.all;split at h
 next b cN=>cases h;exact tk _ (iM cN)
 .split at h
  .rename_i l b aA;split at h
   next a=>cases h;subst a;rw[aA];simp
   .cases h
  .cases h
def ec.TO(a o:ec):Bool:= !o.iA||(a.v.eY (V.fn (·!=o.name))&&a.all.all λC=>C.2.eY (V.fn (·!=o.name))&&C.1 !=o.name)
def ec.ad4(a:ec)(l:pG):Bool:=l.SM.all λA=>a.v.eY (V.fn (·!=A))&&a.all.all λC=>l.gJ.contains C.1||C.2.eY (V.fn (·!=A))
def ec.quiet(a o:ec):Bool:=a.TO o&&(match o.li with|some l=>a.ad4 l|none=>T)
def u6(i:ec)(q:cP):Prop:=∀l,i.li=B l->∀C∈l.NB,∃a,cO q.Y C.1=B (.box a)/\a[C.2.1]?=B C.2.2
def Lq(i:ec):Prop:=∀l,i.li=B l->∀C∈l.kI,∃a b,cO i.need.Y C.1=B (.box a)/\i.oC C.1=B (.box b)/\b[C.2]?=a[C.2]?/\l.gJ.contains C.1=T
def ec.BZ(i:ec):Bool:=match i.li with
 |some l=>l.kI.isEmpty&&l.NB.isEmpty
 |none=>T
def TH{i:ec}(h:i.BZ=T)(q:cP):u6 i q:=by intro l a C ap;unfold ec.BZ at h;rw[a]at h;simp only[fz,UU]at h;rw[h.2]at ap;cases ap
def TI{i:ec}(h:i.BZ=T):Lq i:=by intro l a C ap;unfold ec.BZ at h;rw[a]at h;simp only[fz,UU]at h;rw[h.1]at ap;cases ap
def u6.jU{i:ec}{q ao:cP}(h:u6 i q)(g:lA q ao):u6 i ao:=λl d C ap=>by have⟨a,G,b⟩:=h l d C ap;exact⟨a,(g.2 _).symm.trans G,b⟩
def AK(l:pG)(q:cP):Prop:=∀A∈l.SM,(∀a v,cO q.tmps a=B v->v.eY (V.fn (·!=A))=T)/\∀e r,cO q.Y e=B r->l.gJ.contains e=T\/r.eY (V.fn (·!=A))=T
def st.pre{i:Nat}{a:ec}{q:cP}(h:st i q):st i (a.pre q):=by
 refine⟨?_,λg v ab ax=>?_,λe k b=>?_⟩
 .rw[G5,h.1];unfold ec.nq;cases a.li<;>rfl
 .rw[TK]at ab;unfold ec.kt at ab;split at ab
  .obtain⟨j,dI,rfl⟩:=gG.1 ab;exact ae0 (λa d=>Gk d)<|h.2.1 g j dI ax
  .exact h.2.1 g v ab ax
 .rw[G5]at b;unfold ec.nq at b;split at b
  .obtain⟨j,dI,rfl⟩:=gG.1 b;unfold pG.res;split
   .exact h.2.2 e j dI
   .exact ael (λa d=>Gk d)<|h.2.2 e j dI
  .exact h.2.2 e k b
def st.cL{a o:ec}{q:cP}(h:st o.name q)(cR:o.iA=T)(ap:a.TO o=T):st o.name (a.cL q):=by
 unfold ec.TO at ap;rw[cR]at ap;simp only[xE,r7,fz,fp]at ap;have Y:=h.pre (a:=a);refine⟨?_,λg v ab ax=>?_,λe d b=>?_⟩
 .rw[oj];unfold ec.qu;rw[<-G5];split
  next r ay=>have:=(ap.2 _ (xw ay)).2;simp at this
  .exact Y.1
 .rw[ql]at ab;unfold ec.lt at ab;rw[<-TK]at ab;split at ab
  .cases ab;exact ap.1
  .exact Y.2.1 g v ab ax
 .rw[oj]at b;unfold ec.qu at b;rw[<-G5]at b;split at b
  next r ay=>cases b;exact(ap.2 _ (xw ay)).1
  .exact Y.2.2 e d b
def AK.cL{l:pG}{a:ec}{q:cP}(h:AK l q)(ap:a.ad4 l=T):AK l (a.cL q):=by
 intro A k;have⟨G,i⟩:=h A k;have ap:=fp.1 ap A k;simp only[fz,fp,lc]at ap;refine⟨λm v ab=>?_,λe r b=>?_⟩
 .rw[ql]at ab;unfold ec.lt at ab;split at ab
  .cases ab;exact ap.1
  .unfold ec.kt at ab;split at ab
   .obtain⟨j,dI,rfl⟩:=gG.1 ab;exact ae0 (λa d=>Gk d)<|G m j dI
   .exact G m v ab
 .rw[oj]at b;unfold ec.qu at b;split at b
  next eM ay=>cases b;exact ap.2 _ (xw ay)
  .unfold ec.nq at b;split at b
   .obtain⟨j,dI,rfl⟩:=gG.1 b;rcases i e j dI with g|g
    .exact .inl g
    .refine .inr ?_;unfold pG.res;split
     .exact g
     .exact ael (λa d=>Gk d) g
   .exact i e r b
def AL(i:ec)(q:cP):Prop:=(i.iA=T->st i.name q)/\∀l,i.li=B l->AK l q
def AL.cL{a o:ec}{q:cP}(h:AL o q)(ap:a.quiet o=T):AL o (a.cL q):=by simp only[ec.quiet,fz]at ap;refine⟨λcR=>(h.1 cR).cL cR ap.1,λl b=>(h.2 l b).cL ?_⟩;have:=ap.2;rwa[b]at this
def agq(i:ec)(q:cP):Prop:=(i.iA=T->st i.name q)/\(∀l,i.li=B l->AK l q)/\u6 i q
def mo(u:dw)(n:Nat)(ops:Array dy)(y:dy)(i:ec):Prop:=∀K q,hs i.need q->agq i q->km u K n ops y q (i.cL q)
def pj{ag:Type}(s:E (Nat×ag)):E Nat:=s.map (·.1)
def ec.aeJ(a o:ec):Bool:=match a.li with
 |some l=>o.need.tmps.all (λz=>z.2.eY λc=>c.fn (nH l.m9)&&c.xm)&&o.need.Y.all λz=>l.gJ.contains z.1||z.2.eY λc=>c.fn (nH l.m9)&&c.xm
 |none=>T
def ec.NQ(a o:ec):Bool:=
 (match a.dst with|some b=> !(pj o.need.tmps).contains b|none=>T)&&
 (a.all.all λC=> !(pj o.need.Y).contains C.1)&&a.aeJ o
def ec.BY(a o:ec):Bool:=match a.li with
 |some l=>o.v.eY (V.fn<|nH l.m9)&&(o.all.all λC=>l.gJ.contains C.1||C.2.eY (V.fn<|nH l.m9))
 |none=>T
def ec.TB(a o:ec):Bool:=
 (match a.dst,o.dst with|some t,B l=>t !=l|_,_=>T)&&
 (a.all.all λt=>o.all.all λl=>t.1 !=l.1)&&a.BY o&&o.BY a
def ec.NR(a o:ec):Bool:=match o.li with
 |some l=>l.NB.all λC=>(a.all.all λt=>t.1 !=C.1||(match a.li with|some e=>e.kI.contains (C.1,C.2.1)|none=>Z))&&(match a.li with|some e=>e.gJ.contains C.1||(C.2.2.fn (nH e.m9)&&C.2.2.xm)|none=>T)
 |none=>T
def ec.Bx(a o:ec):Bool:=a.NQ o&&o.NQ a&&a.TB o&&a.quiet o&&o.quiet a&&a.NR o&&o.NR a
theorem aeL{a o:ec}{q:cP}(h:a.NQ o=T):hs o.need q↔hs o.need (a.cL q):=by
 simp only[ec.NQ,fz]at h;have⟨⟨G,x⟩,b⟩:=h;have aG:∀g,g∈pj o.need.tmps->cO (a.cL q).tmps g=a.kt (cO q.tmps g):=by intro g af;rw[ql];unfold ec.lt;rw[dA];intro z;rw[z]at G;simp at G;exact G af
 have aD:∀g,g∈pj o.need.Y->cO (a.cL q).Y g=a.nq g (cO q.Y g):=by
  intro g af;rw[oj];unfold ec.qu;split
  next r ay=>have:=fp.1 x _ (xw ay);simp at this;exact absurd af this
  .rfl
 have key:∀{ag:Type} {s:E (Nat×ag)} {g:Nat} {v:ag},cO s g=B v->g∈pj s:=λ{ag s g v} cN=>hT.2 ⟨_,iM cN,rfl⟩
 unfold ec.aeJ at b;unfold ec.kt at aG;unfold ec.nq at aD;split at b
 .rename_i l k;rw[k]at aG aD;simp only[fz,fp]at b;have⟨b,m⟩:=b;have p:∀c:V,(c.fn (nH l.m9)&&c.xm)=T->c.lX l.m9=c:=λc i=>by simp only[fz]at i;exact Gj i.1
  have u:∀t c:V,(c.fn (nH l.m9)&&c.xm)=T->t.lX l.m9=c->t=c:=λt c i y=>by simp only[fz]at i;exact SF i.2 y
  constructor
  .intro aj;refine⟨λg v ab=>?_,λg v ab=>?_⟩
   .rw[aG g (key ab),aj.t g v ab];exact congrArg B<|ae1 p<|b _ (iM ab)
   .rw[aD g (key ab),aj.h g v ab];refine congrArg B ?_;unfold pG.res;split
    .rfl
    next af=>have:=m _ (iM ab);rw[lc]at this;exact aem p<|this.resolve_left af
  .intro aj;refine⟨λg v ab=>?_,λg v ab=>?_⟩
   .have:=aj.t g v ab;rw[aG g (key ab)]at this;have⟨j,dI,d⟩:=gG.1 this;rw[dI,asf u (b _ (iM ab)) d]
   .have:=aj.h g v ab;rw[aD g (key ab)]at this;have⟨j,dI,d⟩:=gG.1 this;unfold pG.res at d;split at d
    .rw[dI,d]
    next af=>have:=m _ (iM ab);rw[lc]at this;rw[dI,arn u (this.resolve_left af) d]
 .rename_i k;rw[k]at aG aD;constructor
  .intro aj;exact⟨λg v ab=>(aG g cU).trans<|aj.t g v ab,λg v ab=>(aD g cU).trans<|aj.h g v ab⟩
  .intro aj;exact⟨λg v ab=>(aG g cU).symm.trans<|aj.t g v ab,λg v ab=>(aD g cU).symm.trans<|aj.h g v ab⟩
theorem aeK{a o:ec}{q:cP}(h:a.NR o=T)(aj:hs a.need q)(d:Lq a):u6 o q↔u6 o (a.cL q):=by
 have key:∀l,o.li=B l->∀C∈l.NB,((∃j,cO q.Y C.1=B (.box j)/\j[C.2.1]?=B C.2.2)↔∃j,cO (a.cL q).Y C.1=B (.box j)/\j[C.2.1]?=B C.2.2):=by
  intro l i C ap;unfold ec.NR at h;rw[i]at h;have G:=fp.1 h C ap;simp only[fz]at G;have⟨G,m⟩:=G;rw[oj];unfold ec.qu;cases u:a.oC C.1 with
  |some r=>
   have g:=fp.1 G _ (xw u);simp only[bne_self_eq_false,r7]at g;cases af:a.li with
   |none=>rw[af]at g;cases g
   |some e=>
    rw[af]at g;have⟨j,N,x,s,D,_⟩:=d e af (C.1,C.2.1) cU;simp only at x s D;rw[u]at s;cases s;have K:=aj.h _ _ x;constructor
    .rintro⟨c,b,k⟩;rw[K]at b;cases b;exact cU
    .rintro⟨c,b,k⟩;cases b;exact cU
  |none=>
   simp only;unfold ec.nq;cases af:a.li with
   |none=>exact Iff.rfl
   |some e=>
    rw[af]at m;simp only[lc,fz]at m;simp only;unfold pG.res;by_cases p:e.gJ.contains C.1=T
    .simp only[dE p];cases cO q.Y C.1<;>rfl
    .simp only[dA p];have g:=m.resolve_left p;constructor
     .rintro⟨c,b,k⟩;refine⟨c.map<|V.lX e.m9,by rw[b];rfl,?_⟩;rw[gy,k];exact congrArg B<|Gj g.1
     .rintro⟨c,b,k⟩;have⟨r,y,t⟩:=gG.1 b;cases r with
      |box db=>cases t;rw[gy]at k;have⟨an,z,A⟩:=gG.1 k;exact⟨db,y,by rw[z,SF g.2 A]⟩
      |_=>cases t
 constructor
 .intro Y l i C ap;exact(key l i C ap).1<|Y l i C ap
 .intro Y l i C ap;exact(key l i C ap).2<|Y l i C ap
def al8(a o:ec)(y:X cT):o.kt (a.kt y)=a.kt (o.kt y):=by unfold ec.kt;cases a.li<;>cases o.li<;>cases y<;>simp only[oD,iq];rename_i t l v;rw[asg (λan=>SG l.m9 t.m9 an)]
def al1(a o:ec)(g:Nat)(y:X eD):o.nq g (a.nq g y)=a.nq g (o.nq g y):=by unfold ec.nq;cases a.li<;>cases o.li<;>cases y<;>simp only[oD,iq];rename_i t l v;refine congrArg B ?_;unfold pG.res;by_cases G:t.gJ.contains g=T<;>by_cases b:l.gJ.contains g=T<;>simp only[G,b,if_true,if_false,j0];rw[aro (λan=>SG l.m9 t.m9 an)]
def abd{a o:ec}(h:a.BY o=T):a.kt (B o.v)=B o.v:=by
 unfold ec.BY at h;unfold ec.kt;split at h
 next l _=>simp only[fz]at h;exact congrArg B (ae1 (λc b=>Gj b) h.1)
 .rfl
def aa8{a o:ec}(h:a.BY o=T){g:Nat}{r:eD}(aA:o.oC g=B r):a.nq g (B r)=B r:=by
 unfold ec.BY at h;unfold ec.nq;split at h
 .rename_i l _;simp only[fz,fp,lc]at h;refine congrArg B ?_;unfold pG.res;split
  .rfl
  next af=>exact aem (λc b=>Gj b)<|(h.2 _ (xw aA)).resolve_left af
 .rfl
def aqo{a o:ec}(h:a.TB o=T)(q:cP):lA (o.cL (a.cL q)) (a.cL (o.cL q)):=by
 simp only[ec.TB,fz]at h;have⟨⟨⟨G,j⟩,b⟩,i⟩:=h;refine⟨λg=>?_,λg=>?_⟩
 .rw[ql,ql,ql,ql];unfold ec.lt;by_cases d:a.dst=B g
  .by_cases ad:o.dst=B g
   .rw[d,ad]at G;simp at G
   .rw[dA ad,dE d,dE d,abd i]
  .by_cases ad:o.dst=B g
   .rw[dE ad,dA d,dE ad,abd b]
   .rw[dA ad,dA d,dA d,dA ad,al8]
 .rw[oj,oj,oj,oj];unfold ec.qu;cases d:a.oC g with
  |none=>
   cases ad:o.oC g with
   |none=>exact al1 a o g _
   |some r=>simp only;rw[aa8 b ad]
  |some z=>
   cases ad:o.oC g with
   |none=>simp only;rw[aa8 i d]
   |some C=>have:=fp.1 (fp.1 j _ (xw d)) _ (xw ad);simp at this
def sF:E ec->cP->Prop
 |[],_=>True
 |i::s,q=>(hs i.need q/\u6 i q/\Lq i)/\sF s (i.cL q)
def rq:E ec->cP->cP
 |[],q=>q
 |i::s,q=>rq s<|i.cL q
def sF.jU:∀{s:E ec} {q ao:cP},sF s q->lA q ao->sF s ao
 |[],_,_,_,_=>trivial
 |i::a,_,_,h,g=>⟨⟨h.1.1.jU g,h.1.2.1.jU g,h.1.2.2⟩,sF.jU h.2<|Zs i g⟩
def rq.jU:∀(s:E ec) {q ao:cP},lA q ao->lA (rq s q) (rq s ao)
 |[],_,_,g=>g
 |i::s,_,_,g=>rq.jU s<|Zs i g
theorem ZH{a:ec}{post:E ec}:∀(pre:E ec) (q:cP),(∀o∈pre,o.Bx a=T)->sF (pre++a::post) q->sF (a::pre++post) q/\lA (rq (pre++a::post) q) (rq (a::pre++post) q)
 |[],q,_,h=>⟨h,lA.refl _⟩
 |o::pre,q,hi,h=>by have⟨G,s⟩:=h;have⟨⟨b,t⟩,u⟩:=ZH pre (o.cL q) (λan N=>hi an cU) s;have i:=hi o dh;simp only[ec.Bx,fz]at i;have⟨⟨⟨⟨⟨⟨j,k⟩,l⟩,_⟩,_⟩,m⟩,p⟩:=i;have g:=aqo l q;have d:=(aeL j).2 b.1;refine⟨⟨⟨d,(aeK m G.1 G.2.2).2 b.2.1,b.2.2⟩,⟨(aeL k).1 G.1,(aeK p d b.2.2).1 G.2.1,G.2.2⟩,sF.jU t g⟩,u.trans ?_⟩;exact rq.jU (pre++post) g
def uD(a:Nat->E Nat):E (Nat×ec)->Bool
 |[]=>T
 |z::s=>uD a s&&s.all λC=>(a C.1).contains z.1||z.2.Bx C.2
def uY:E (Nat×ec)->Bool
 |[]=>T
 |z::s=>uY s&&s.all λC=>z.2.quiet C.2
theorem VT{b:Nat->E Nat}:∀{pre:E (Nat×ec)} {a:Nat×ec} {post:E (Nat×ec)},uD b (pre++a::post)=T->(∀o∈pre,(b a.1).contains o.1=T\/o.2.Bx a.2=T)/\uD b (pre++post)=T
 |[],a,post,h=>by simp only[k8,uD,fz]at h;exact cU
 |z::pre,a,post,h=>by
  simp only[r8,uD,fz]at h;have⟨G,g⟩:=VT h.1;have d:=fp.1 h.2;refine⟨λo ad=>?_,?_⟩
  .rcases l3.1 ad with rfl|ad
   .simpa using d a dh
   .exact G o ad
  .simp only[r8,uD,fz];refine⟨g,fp.2 λC ap=>d C ?_⟩;rcases gq.1 ap with ap|ap
   .exact r9 _ ap
   .exact tk _ (HM _ ap)
theorem Qv:∀{pre:E (Nat×ec)} {a:Nat×ec} {post:E (Nat×ec)},uY (pre++a::post)=T->(∀C∈post,a.2.quiet C.2=T)/\uY (pre++post)=T
 |[],a,post,h=>by simp only[k8,uY,fz]at h;exact ef
 |z::pre,a,post,h=>by
  simp only[r8,uY,fz]at h;have⟨G,b⟩:=Qv h.1;have d:=fp.1 h.2;refine⟨G,?_⟩;simp only[r8,uY,fz];refine⟨b,fp.2 λC ap=>d C ?_⟩;rcases gq.1 ap with ap|ap
  .exact r9 _ ap
  .exact tk _ (HM _ ap)
structure afK(u:dw)(n:Nat)(ops:Array dy)(d:Nat->E Nat)(g:Nat)(a:E (Nat×ec))(b:Array Bool)(q:cP):Prop where
 size:b.size=ops.size
 zc:∀j,j<ops.size->(b.getD j T=Z↔j∈a.map (·.1)\/ops.size<=j+g)
 lt:∀z∈a,z.1+g<ops.size
 abP:(a.map (·.1)).Nodup
 aeI:∀z∈a,∀j,j<z.1->j∈a.map (·.1)->∃pre post,a=pre++z::post/\j∈pre.map (·.1)
 UA:∀z∈a,∃y,ops[z.1]?=B y/\mo u n ops y z.2
 run:sF (a.map (·.2)) q
 S1:∀z∈a,AL z.2 q
 akd:uD d a=T
 abF:uY a=T
 il:∀j,j<ops.size->b.getD j T=T->∀m∈d j,b.getD m T=T
def HZ(ops:Array dy)(a:Nat->E Nat):Prop:=∀j y,ops[j]?=B y->(∀e∈y.after,Ci .any e=T->e.on<j)/\∀m∈a j,∃e∈y.after,Ci .any e=T/\(e.on=m\/m∈a e.on)
def ai9{ops:Array dy}{b:Nat->E Nat}(d:HZ ops b):∀(j:Nat) {y:dy},ops[j]?=B y->∀m∈b j,m<j:=by
 intro j;induction j using Cf with
 |_ j k=>
  intro y cK m aw;have⟨e,i,g,a⟩:=(d j y cK).2 m aw;have aX:=(d j y cK).1 e i g;rcases a with rfl|a
  .exact aX
  .have aj:=(l4.1 cK).1;have:=k e.on aX (pu I) m a;omega
def Rb(ops:Array dy)(a:Nat->E Nat)(b:Nat):Prop:=∀j,j<ops.size->ops.size<=j+b->∀m,m<j->m∈a j
def Zq{u:dw}{ops:Array dy}{z:Nat->E Nat}(i:HZ ops z){C:Nat}(ax:Rb ops z C){ah:fE->Act->d2->Prop}:∀(a:E dy) (l:Nat) (b:Array Bool) (t:Act) (w:d2),l+F a=ops.size->F a<=C->(∀m,a[m]?=ops[l+m]?)->b.size=ops.size->(∀j,j<ops.size->(b.getD j T=Z↔l<=j))->wpList u ops ah a t w->wpAny u .any ops ah (F a) b t w
 |[],l,b,t,w,p,_,_,_,cN,h=>by refine⟨?_,h⟩;apply List.eq_nil_iff_forall_not_mem.2;intro j hi;have⟨G,y,cK,_⟩:=mem_ready.1 hi;have aX:=(l4.1 cK).1;have:=(cN j aX).1 G;simp at p;omega
 |y::a,l,b,t,w,p,cR,ar,aj,cN,h=>by
  simp only[l6]at p cR;have s:ops[l]?=B y:=by have:=ar 0;simpa using this.symm
  have ae:∀j,j<l->b.getD j Z=T:=by
   intro j hi;have G:=cN j I;rw[oH]at G⊢;rw[pu I]at G⊢;simp only[n7]at G⊢;cases P:b[j]'I with
   |true=>rfl
   |false=>have:=G.1 P;omega
  refine⟨λab=>?_,λj hi=>?_⟩
  .exfalso;have A:l∈UV .any ops b:=mem_ready.2 ⟨(cN l I).2<|jq _,y,s,λe o k=>ae _ ((i l y s).1 e o k)⟩;rw[ab]at A;cases A
  .have⟨ba,D,q,N⟩:=mem_ready.1 hi;have aX:=(l4.1 q).1;have ak:=(cN j aX).1 ba;have Q:j=l:=by
    rcases la l j with aa|S
    .exfalso;have⟨e,o,k,x⟩:=(i j D q).2 l<|ax j aX I l aa;have G:=N e o k;have ag:e.on<l:=by have ai:=(i j D q).1 e o k;have d:=cN e.on I;rw[oH]at G d;rw[pu I]at G d;simp only[n7]at G d;rw[G]at d;simp at d;exact d
     rcases x with rfl|x
     .omega
     .have:=ai9 i e.on (y:=ops[e.on]'I) (pu I) l x;omega
    .omega
   subst Q;have ad:wpOp u ops ah j (wpList u ops ah a) t w:=by unfold wpOp;simp only[s];exact h
   refine wpOp_mono (λK aE aF=>?_) ad;refine Zq i ax a (j+1) _ K aE I I (λm=>?_) (by simp[aj]) (λg af=>?_) aF
   .have:=ar (m+1);simpa[lH,Nat.add_comm 1 m]using this
   .rw[oH,HV];by_cases ap:j=g
    .subst ap;rw[dE rfl,dE I];simp
    .rw[dA ap,<-oH,cN g af];omega
def aja{u:dw}{K:fb}{n:Nat}{ops:Array dy}{S:Nat->E Nat}(aa:HZ ops S){d:E dy}(ax:Rb ops S (F d))(aO:∀m,d[m]?=ops[ops.size-F d+m]?)(bd:F d<=ops.size){ah:fE->Act->d2->Prop}:∀(A:Nat) (l:E (Nat×ec)) (i:Array Bool) (q:cP) (t:Act) (w:d2),F l=A->afK u n ops S (F d) l i q->R K n t w q->
  (∀t w ao,lA (rq (l.map (·.2)) q) ao->R K n t w ao->wpList u ops ah d t w)->wpAny u .any ops ah (A+F d) i t w:=by
 intro A;induction A with
 |zero=>intro l i q t w af a r ag;have:l=[]:=mw af;subst this;rw[gx];refine Zq aa ax d (ops.size-F d) i t w I dd aO a.size (λj hi=>?_)<|ag t w q (lA.refl _) r;rw[a.zc j hi];simp only[jY,List.not_mem_nil,false_or];omega
 |succ A a2=>
  intro l i q t w af a r ag;rw[(dd:A+1+F d=(A+F d)+1)];refine⟨λaS=>?_,λj hi=>?_⟩
  ·
   exfalso;cases l with
   |nil=>simp at af
   |cons z s=>
    have Y:=a.lt z dh;have⟨y,cK,_⟩:=a.UA z dh;have aG:z.1∈UV .any ops i:=by
     refine mem_ready.2 ⟨(a.zc z.1 I).2 dh,y,cK,λe k ab=>?_⟩
     .have aX:=(aa z.1 y cK).1 e k ab;have aB:e.on<ops.size:=I;cases ar:i.getD e.on T with
      |true=>rw[oH]at ar⊢;rw[pu (by rw[a.size];exact aB)]at ar⊢;simpa using ar
      |false=>
       have p:e.on∈(z::s).map (·.1):=((a.zc e.on aB).1 ar).resolve_right I;have⟨pre,post,az,aT⟩:=a.aeI z dh e.on aX p;have D:=a.abP;cases pre with
       |nil=>simp at aT
       |cons C pre=>
        rw[r8]at az;injection az with G b
        rw[b]at D;simp at D
    rw[aS]at aG;cases aG
  .have⟨ba,y,cK,aN⟩:=mem_ready.1 hi;have aX:=(l4.1 cK).1;have ak:∀m∈S j,i.getD m T=T:=by
    intro m aw;have⟨e,k,ab,al⟩:=(aa j y cK).2 m aw;have bc:=(aa j y cK).1 e k ab;have cN:i.getD e.on Z=T:=aN e k ab;have aA:i.getD e.on T=T:=by rw[oH]at cN⊢;rw[pu (by rw[a.size];omega)]at cN⊢;simpa using cN
    rcases al with rfl|al
    .exact aA
    .exact a.il e.on I aA m al
   have p:j∈l.map (·.1):=by
    rcases(a.zc j aX).1 ba with h|h
    .exact h
    .exfalso;cases l with
     |nil=>simp at af
     |cons C s=>have ap:=a.lt C dh;have b:=ak C.1<|ax j aX h C.1 I;rw[(a.zc C.1 I).2 (.inl dh)]at b;cases b
   obtain⟨z,Y,rfl⟩:=hT.1 p;obtain⟨pre,post,rfl⟩:=UW Y;have⟨bg,aF,aZ⟩:=a.UA z Y;rw[cK]at aF;cases aF;have⟨aL,aM⟩:=VT a.akd;have au:∀o∈pre,o.2.Bx z.2=T:=by
    intro o ad;rcases aL o ad with h|h
    .exfalso;have aI:=ak o.1 qe;have a0:=a.zc o.1 (by have:=a.lt o (by simp[ad]);omega);have:=a0.2<|.inl (by simp only[hN,gq];exact .inl<|hT.2 ⟨o,ad,rfl⟩);rw[this]at aI;cases aI
    .exact h
   have a3:=a.run;rw[hN,hx]at a3;have⟨⟨aD,aV⟩,aW⟩:=ZH (a:=z.2) (post:=post.map (·.2)) (pre.map (·.2)) q (λo ad=>by obtain⟨C,ap,rfl⟩:=hT.1 ad;exact au C ap) a3
   have aY:=aZ K q aD.1 ⟨(a.S1 z Y).1,(a.S1 z Y).2,aD.2.1⟩;unfold wpOp;simp only[cK];have aK:∀Q aE,R K n Q aE (z.2.cL q)->wpAny u .any ops ah (A+F d) (i.setIfInBounds z.1 T) Q aE:=by
    intro Q aE a8;have D:=a.abP;have ae:∀C,C∈pre++post->C∈pre++z::post:=λC ap=>by
     rcases gq.1 ap with h|h
     .exact r9 _ h
     .exact tk _ (HM _ h)
    have aR:∀C∈pre++post,C.1≠z.1:=by
     intro C ap k;rw[hN,hx,List.nodup_append]at D;have⟨bf,a4,a5⟩:=D;rcases gq.1 ap with h|h
     .exact a5 C.1 (hT.2 ⟨C,h,rfl⟩) z.1 dh k
     .have:=(List.nodup_cons.1 a4).1;exact this (hT.2 ⟨C,h,k⟩)
    refine a2 (pre++post) (i.setIfInBounds z.1 T) (z.2.cL q) Q aE (by simp at af⊢;omega) ?_ a8 ?_
    .refine⟨by simp[a.size],λm aw=>?_,λC ap=>a.lt C<|ae C ap,?_,?_,λC ap=>a.UA C<|ae C ap,by rw[hN];exact aV,?_,aM,(Qv a.abF).2,?_⟩
     .rw[oH,HV];by_cases x:z.1=m
      .subst x;rw[dE rfl,dE (by rw[a.size];exact aw)];simp only[n7,Bool.true_eq_false,false_iff];rintro(aC|aC)
       .have⟨C,ap,aU⟩:=hT.1 aC;exact aR C ap aU
       .have:=a.lt z Y;omega
      .rw[dA x,<-oH,a.zc m aw];simp only[hN,hx,gq,l3];constructor
       .rintro((h|h|h)|h)
        .exact .inl<|.inl h
        .exact absurd h.symm x
        .exact .inl<|.inr h
        .exact .inr h
       .rintro((h|h)|h)
        .exact .inl<|.inl h
        .exact .inl<|.inr<|.inr h
        .exact .inr h
     .rw[hN]at D⊢;rw[hx]at D;exact D.sublist<|Od (List.sublist_cons_self _ _) _
     .intro C ap m aw aj;have aP:m∈(pre++z::post).map (·.1):=by
       simp only[hN,hx,gq,l3]at aj⊢;rcases aj with h|h
       .exact .inl h
       .exact .inr<|.inr h
      have⟨a7,a6,k,p⟩:=a.aeI C (ae C ap) m aw aP;have aQ:m≠z.1:=by intro x;have⟨an,N,a1⟩:=hT.1 aj;exact aR an N<|a1.trans x
      rcases List.append_eq_append_iff.1 k with⟨mid,G,b⟩|⟨mid,G,b⟩
      .cases mid with
       |nil=>
        simp only[k8]at b;injection b with P _
        exact absurd (congrArg Prod.fst P.symm)<|aR C ap
       |cons an mid=>
        rw[r8]at b;injection b with P aq
        subst P;refine⟨pre++mid,a6,by rw[aq];simp,?_⟩;rw[G]at p;simp only[hN,hx,gq,l3]at p⊢;rcases p with h|h|h
        .exact .inl h
        .exact absurd h aQ
        .exact .inr h
      .cases mid with
       |nil=>
        simp only[k8]at b;injection b with P _
        exact absurd (congrArg Prod.fst P)<|aR C ap
       |cons an mid=>
        rw[r8]at b;injection b with P aq
        subst P;exact⟨a7,mid++post,by rw[G];simp,p⟩
     .intro C ap;refine AL.cL (a.S1 C<|ae C ap) ?_;rcases gq.1 ap with h|h
      .have:=au C h;simp only[ec.Bx,fz]at this;exact this.1.1.2
      .exact(Qv a.abF).1 C h
     .intro m aw ai g av;rw[oH,HV]at ai⊢;by_cases ay:z.1=g
      .subst ay;rw[dE rfl];split<;>simp
      .rw[dA ay,<-oH];by_cases x:z.1=m
       .subst x;exact ak g av
       .rw[dA x,<-oH]at ai;exact a.il m aw ai g av
    .intro aJ bb a_ aH a9;refine ag aJ bb a_ ?_ a9;rw[hN,hx];rw[hN]at aH;exact aW.trans aH
   have:=aY t w r _ ah aK;split
   next am=>rw[dE am]at this;exact .inl this
   next am=>rw[dA am]at this;exact this
inductive xP(u:dw)(n:Nat)(ops:Array dy):List dy->List ec->Prop
 |nil:xP u n ops [] []
 |cons {y:dy} {s:List dy} {i:ec} {a:List ec} (h:mo u n ops y i) (g:xP u n ops s a):xP u n ops (y::s) (i::a)
def xP.jT{u:dw}{n:Nat}{ops:Array dy}{s:E dy}{a:E ec}(h:xP u n ops s a):F s=F a/\∀(j:Nat) (i:ec),a[j]?=B i->∃y,s[j]?=B y/\mo u n ops y i:=by
 induction h with
 |nil=>exact⟨rfl,dh⟩
 |cons h g d=>
  refine⟨by simp[d.1],λj i b=>?_⟩;cases j with
  |zero=>cases b;exact⟨_,rfl,h⟩
  |succ j=>exact d.2 j i b
def p0{ag:Type}:Nat->E ag->E (Nat×ag)
 |_,[]=>[]
 |j,a::s=>(j,a)::p0 (j+1) s
def S2{ag:Type}:∀(s:E ag) (j:Nat),(p0 j s).map (·.2)=s
 |[],_=>rfl
 |a::s,j=>by simp[p0,S2 s]
def GI{ag:Type}:∀(s:E ag) (j:Nat),(p0 j s).map (·.1)=List.range' j (F s)
 |[],_=>rfl
 |a::s,j=>by simp[p0,GI s,List.range'_succ]
theorem M5{ag:Type}:∀(s:E ag) (j:Nat) (z:Nat×ag),z∈p0 j s->j<=z.1/\s[z.1-j]?=B z.2
 |[],_,_,h=>by simp[p0]at h
 |a::s,j,z,h=>by
  rcases l3.1 h with rfl|h
  .simp
  .have⟨G,b⟩:=M5 s (j+1) z h;exact ef
def BM{ag:Type}:∀(s:E ag) (j:Nat),F (p0 j s)=F s
 |[],_=>rfl
 |a::s,j=>by simp[p0,BM s]
def yN(a:E (E Nat))(j:Nat):E Nat:=(a[j]?).getD []
def OL(ops:Array dy)(a:E (E Nat)):Bool:=(jG ops.size).all λj=>match ops[j]? with
 |some y=>y.after.all (λe=> !Ci .any e||decide (e.on<j))&&(yN a j).all λm=>y.after.any λe=>Ci .any e&&(e.on==m||(yN a e.on).contains m)
 |none=>T
theorem afR{ops:Array dy}{d:E (E Nat)}(h:OL ops d=T):HZ ops (yN d):=by
 intro j y cK;have hi:=(l4.1 cK).1;have:=fp.1 h j cU;rw[cK]at this;simp only[fz]at this;refine⟨λe b g=>?_,λm aw=>?_⟩
 .have G:=Array.all_eq_true_iff_forall_mem.1 this.1 e b;rw[g]at G;simpa using G
 .have G:=fp.1 this.2 m aw;have⟨e,b,a⟩:=Array.any_eq_true'.1 G;simp only[fz,lc,beq_iff_eq]at a;exact⟨e,b,a.1,by simpa using a.2⟩
def Hq(ops:Array dy)(b:E (E Nat))(a:Nat):Bool:=(jG ops.size).all λj=>decide (j+a<ops.size)||(jG j).all λm=>(yN b j).contains m
theorem asp{ops:Array dy}{b:E (E Nat)}{a:Nat}(h:Hq ops b a=T):Rb ops (yN b) a:=by
 intro j hi cR m aw;have G:=fp.1 h j cU;simp only[lc,i6]at G;rcases G with G|G
 .omega
 .simpa using fp.1 G m cU
theorem aso(ops:Array dy)(a:E (E Nat)):Hq ops a 0=T:=by
 refine fp.2 λj hi=>?_
 simp only[jO,lc,i6];exact .inl cU
def aiD{u:dw}{K:fb}{n:Nat}{ah:fE->cP->Prop}{q:cP}{s A d:E dy}{id:Nat}(C:E (E Nat))(a:E ec)(ao:cP)(ai:u.follows .mixedOrders=T)(g:s=A++d)(af:xP u n s.toArray A a)(aq:Hq s.toArray C (F d)=T)(ad:OL s.toArray C=T)(a3:sF a q)(aa:lA (rq a q) ao)(ak:∀i∈a,AL i q)(ae:uD (yN C) (p0 0 a)=T)(aj:uY (p0 0 a)=T)(ab:wL u K n s.toArray d ao ah):
  ht u K n (.region id s.toArray T) q ah:=by
 intro t w r;have⟨cN,ag⟩:=af.jT;refine wp_region_any ai ?_;have aU:s.toArray.size=F (p0 0 a)+F d:=by rw[BM,<-cN,g];simp
 have p:F s=F a+F d:=by rw[<-cN,g];simp
 rw[aU];refine aja (K:=K) (n:=n) (afR ad) (asp aq) (λm=>?_) (by simp[p]) _ (p0 0 a) _ q t _ rfl ?_ ?_ ?_
 .simp only[qA,HB];rw[p,g,rc (by rw[cN];omega)];congr 1;omega
 .refine⟨by simp[BM,p],λj hi=>?_,λz Y=>?_,?_,?_,λz Y=>?_,by rw[S2];exact a3,λz Y=>?_,ae,aj,?_⟩
  .rw[GI,oH];simp only[UX,BM];simp only[qA]at hi;rw[dE I];simp[UY];omega
  .have⟨_,b⟩:=M5 a 0 z Y;have:=(ie.1 b).1;simp;omega
  .rw[GI];exact List.nodup_range'
  .intro z Y j hi D;have⟨pre,post,o⟩:=UW Y;refine⟨pre,post,o,?_⟩;have G:=GI a 0;rw[o,hN,hx]at G;have an:z.1=F pre:=by
    have b:((pre.map (·.1))++z.1::post.map (·.1))[F pre]?=B z.1:=by rw[rc dh];simp
    have aX:F pre<F a:=by have:=congrArg F o;rw[BM]at this;simp at this;omega
    rw[G,UZ aX]at b;simp at b;omega
   have k:((pre.map (·.1))++z.1::post.map (·.1))[j]?=B j:=by
    have aX:j<F a:=by rw[GI]at D;simp[UY]at D;omega
    rw[G,UZ aX];simp
   rw[tj fv]at k;exact lp k
  .have⟨_,b⟩:=M5 a 0 z Y;have⟨y,k,S⟩:=ag _ _ b;refine⟨y,?_,S⟩;simp only[HB];have Q:A[z.1]?=B y:=Xz;rwa[g,tj (ie.1 Q).1]
  .have⟨_,b⟩:=M5 a 0 z Y;exact ak z.2<|lp b
  .intro j hi l;rw[oH]at l;simp only[UX,BM]at l;simp only[qA]at hi;rw[dE I]at l;simp at l
 .have⟨x,r⟩:=r;exact⟨x,r.ext<|Ext.drew w⟩
 .intro P am ap N al;rw[S2]at N;exact ab P am<|al.jU<|N.symm.trans aa
def Tx:E hp->E Nat
 |[]=>[]
 |.tmp a::s=>a::Tx s
 |_::s=>Tx s
def V.w7:V->E Nat
 |.box i _=>[i]
 |.dk i=>[i]
 |.row i _=>[i]
 |.ip i _ _=>[i]
 |.sub i _ _ _=>[i]
 |.hn i _ _ _=>[i]
 |.hV i _ _=>[i]
 |.d_ _ tag _ _=>match tag with
  |b+2=>[b]
  |_=>[]
 |.gf _ a=>a.flatMap λ
  |.box i _=>[i]
  |.dk i=>[i]
  |_=>[]
 |_=>[]
def V.amR:V->E Nat
 |.dk i=>[i]
 |.row i _=>[i]
 |.ip i _ _=>[i]
 |.sub i _ _ _=>[i]
 |.hV i _ _=>[i]
 |_=>[]
def cT.m9(f:V->E Nat):cT->E Nat
 |.c a=>f a
 |.agg b=>b.flatMap f
 |.eu d=>d.flatMap λa=>a.2.flatMap f
def uc(q:cP)(f:V->E Nat):E hp->E Nat
 |[]=>[]
 |a::s=>(match dZ q a with|some v=>v.m9 f|none=>[])++uc q f s
def adx(q:cP):Op->E Nat
 |.load _ a=>uc q V.w7 [a]
 |.store _ z _=>uc q V.w7 [z]
 |.nilCheck a=>uc q V.w7 [a]
 |.call c=>uc q V.w7 c.operands.toList
 |.indexAddr _ a _=>uc q V.amR [a]
 |.slice _ a _ _ _=>uc q V.w7 [a]
 |.lookup _ a _ _=>uc q V.w7 [a]
 |.mapUpdate _ a _ _=>uc q V.w7 [a]
 |.insert _ a _ _=>uc q V.w7 [a]
 |_=>[]
def ue{ag:Type}(s:E (Nat×ag))(a:E Nat):E (Nat×ag):=s.filter λz=>a.contains z.1
def zb{ag:Type}(b:E Nat):∀(s:E (Nat×ag)) (g:Nat) (v:ag),cO (ue s b) g=B v->cO s g=B v
 |[],g,v,h=>by simp[ue,cO]at h
 |(t,a)::s,g,v,h=>by
  simp only[ue,v7]at h;split at h
  .rw[io]at h⊢;split at h
   next af=>rw[dE af];exact h
   next af=>rw[dA af];exact zb b s g v h
  .rename_i ap;have G:=zb b s g v h;rw[io];split
   next af=>subst af;exfalso;have:=iM h;simp only[List.mem_filter]at this;exact ap this.2
   .exact G
def BH(ops:Array dy)(y:dy)(q:cP):cP:={tmps:=ue q.tmps (Tx y.op.operands.toList++(match y.guard with|some (m,_)=>(match ops[m]? with|some a=>a.dst.toList|none=>[])|none=>[])),Y:=ue q.Y<|adx q y.op}
def abH(ops:Array dy)(y:dy)(q:cP):hs (BH ops y q) q:=⟨λg v h=>zb _ _ g v h,λg v h=>zb _ _ g v h⟩
variable{y:dy}
def afl(v:cT)(ar:hF ops y ao=B T)(a:jB n y=T)(Y:jP u y ao v):mo u n ops y ⟨ao,y.dst,v,M,Z,M,[]⟩:=λ_ _ aj _=>AT v (aj.guard ar) a<|aj.jC Y
def as2(ar:hF ops y ao=B Z)(a:jB n y=T):mo u n ops y ⟨ao,y.dst,.eu [],M,Z,M,[]⟩:=λ_ _ aj _=>XO (aj.guard ar) a
def hs.lj{q ao:cP}(h:hs q ao){i:Nat}{a:E V}(cN:q.lj i=B a):ao.lj i=B a:=by have:=h.h i _ (za cN);unfold cP.lj;rw[this]
def R5(u:dw)(n:Nat)(ops:Array dy)(y:dy)(q:cP):X ec:=
 let ao:=BH ops y q
 match hF ops y ao with
 |some Z=>if jB n y then B ⟨ao,y.dst,.eu [],M,Z,M,[]⟩else M
 |some T=>match y.op with
  |.box _ a=>match y.dst,dZ ao a with
   |some i,B v=>match cellsOf v with
    |some b=>if decide (i<n)&&decide (i<1000000)&&b.all (V.fn (·!=i))then B ⟨ao,B i,.c<|.box i 0,B (i,.box b),T,M,[]⟩else M
    |none=>M
   |_,_=>M
  |.alloc g=>match y.dst,(u.info? g).bind (·.zero)with
   |some i,B an=>if decide (i<n)&&decide (i<1000000)then B ⟨ao,B i,.c<|.box i 0,B (i,.box<|an.cells.toList.map V.cY),T,M,[]⟩else M
   |_,_=>M
  |.store g z a=>match y.dst,dZ ao z,dZ ao a with
   |none,B (.c (.box i aq)),B v=>match cellsOf v,ao.lj i,u.info? g with
    |some d,B b,B j=>if decide (j.size=F d)&&d.all V.one&&decide (aq+F d<=F b)then B ⟨ao,M,.eu [],B (i,.box<|lC b aq d),Z,M,[]⟩else M
    |_,_,_=>M
   |_,_,_=>M
  |_=>match s9 u ao y.op with
   |some v=>if jB n y then B ⟨ao,y.dst,v,M,Z,M,[]⟩else M
   |none=>M
 |none=>M
theorem akx{q:cP}{i:ec}(h:R5 u n ops y q=B i):(mo u n ops y i/\i.need=BH ops y q)/\i.BZ=T:=by
 unfold R5 at h;simp only at h;generalize BH ops y q=ao at h;split at h
 .rename_i ar;split at h
  next g=>cases h;exact⟨⟨as2 ar g,rfl⟩,rfl⟩
  .cases h
 .rename_i ar;split at h
  .rename_i o a cK;split at h
   .rename_i k v g d;split at h
    .rename_i m l;split at h
     next b=>simp only[fz,i6]at b;cases h;exact⟨⟨λK q aj cR=>XF k cK g (aj.guard ar) b.1.1 b.1.2 (aj.dZ d) l (cR.1 rfl) b.2,rfl⟩,rfl⟩
     .cases h
    .cases h
   .cases h
  .rename_i o cK;split at h
   .rename_i k an g N;split at h
    next b=>simp only[fz,i6]at b;cases h;exact⟨⟨λK q aj cR=>XC k _ cK g (aj.guard ar) b.1 b.2 N rfl (cR.1 rfl),rfl⟩,rfl⟩
    .cases h
   .cases h
  .rename_i o z a cK;split at h
   .rename_i k aq v g Y d;split at h
    .rename_i p m j s l hi;split at h
     next b=>simp only[fz,i6]at b;cases h;exact⟨⟨λK q aj _=>QU k aq m p cK g (aj.guard ar) (aj.dZ Y) (aj.dZ d) s (aj.lj l) cU b.1.2 b.2,rfl⟩,rfl⟩
     .cases h
    .cases h
   .cases h
  .split at h
   .rename_i v ab;split at h
    next g=>cases h;exact⟨⟨afl v ar g (Ca ab).jC,rfl⟩,rfl⟩
    .cases h
   .cases h
 .cases h
inductive fX where
 |mk (ops:Array dy) (s:List dy) (a:List ec) (b:cP) (eU:List oP) (q:cP)
 |iZ
def am1(s:E Nat):E Nat:=s.foldr (λa r=>if r.contains a then r else a::r) []
def FA(ops:Array dy):E (E Nat):=ops.toList.foldl (λa y=>a++[am1 (y.after.toList.flatMap λe=>if Ci .any e then e.on::(a[e.on]?).getD []else[])]) []
def S0(i:ec)(q:cP):Bool:=match i.li with
 |some l=>l.SM.all λA=>q.tmps.all (λz=>z.2.eY (V.fn (·!=A)))&&q.Y.all λz=>l.gJ.contains z.1||z.2.eY (V.fn (·!=A))
 |none=>T
def amU{i:ec}{q:cP}(h:S0 i q=T):∀l,i.li=B l->AK l q:=by intro l a A d;unfold S0 at h;rw[a]at h;have:=fp.1 h A d;simp only[fz,fp,lc]at this;exact⟨λg v ab=>this.1 _ (iM ab),λe r b=>this.2 _ (iM b)⟩
def Mg(ops:Array dy)(b:cP)(a:E ec):Bool:=OL ops (FA ops)&&uD (yN<|FA ops) (p0 0 a)&&uY (p0 0 a)&&a.all λi=>(!i.iA||b.sX i.name (B i.name))&&S0 i b
def TD(u:dw)(K:fb)(n:Nat)(P:fX)(ah:fE->cP->Prop):Prop:=match P with
 |.mk ops s g i eU q=>∃d b a,s=d++b/\xP u n ops d a/\sF a q/\Mg ops i (g.reverse++a)=T/\Hq ops (FA ops) (F b)=T/\wL u K n ops b (rq a q) (mE u K n eU ah)
 |.iZ=>False
def Ui(u:dw)(n:Nat):fX->fX
 |.mk ops (y::s) a b eU q=>match R5 u n ops y q with
  |some i=>.mk ops s (i::a) b eU<|i.cL q
  |none=>.iZ
 |_=>.iZ
def goD(u:dw)(n:Nat):Nat->fX->fX
 |0,P=>P
 |g+1,P=>goD u n g<|Ui u n P
def dT.yZ:dT->fX
 |.mk (.code (.region _ ops T)::eU) .normal q=>.mk ops ops.toList [] q eU q
 |_=>.iZ
def fX.done:fX->dT
 |.mk _ [] _ _ eU q=>.mk eU .normal q
 |_=>.iZ
def fX.ok:fX->Bool
 |.mk ops [] a b _ _=>Mg ops b a.reverse
 |_=>Z
def fX.op:fX->X (Array dy×dy)
 |.mk ops (y::_) _ _ _ _=>B (ops,y)
 |_=>M
def fX.need:fX->cP
 |.mk ops (y::_) _ _ _ q=>BH ops y q
 |_=>⟨[],[]⟩
def fX.push(P:fX)(i:ec):fX:=match P with
 |.mk ops (_::s) a b eU q=>.mk ops s (i::a) b eU<|i.cL q
 |_=>.iZ
variable{P:fX}
def vd(t:u.follows .mixedOrders=T)(g:TD u K n N.yZ ah):TS u K n N ah:=by
 unfold dT.yZ at g;split at g
 .rename_i id ops eU q;have⟨x,y,a,dI,G,d,b,j,k⟩:=g;simp only[Mg,fz,List.reverse_nil,k8]at b;have⟨⟨⟨l,m⟩,o⟩,p⟩:=b;have:=aiD (u:=u) (K:=K) (n:=n) (ah:=mE u K n eU ah) (q:=q) (s:=ops.toList) (id:=id) (A:=x) (d:=y) (FA ops) a (rq a q) t dI G j l d (lA.refl _) (λi s=>by have:=fp.1 p i s;rw[fz]at this;refine⟨λcR=>?_,amU this.2⟩;have:=this.1;simp only[cR,xE,r7]at this;exact vP this) m o k
  exact this
 .exact g.elim
def fX.q4(P:fX)(a:E Nat):cP:=match P with
 |.mk ops (y::_) _ _ _ q=>⟨(BH ops y q).tmps,ue q.Y<|a++adx q y.op⟩
 |_=>⟨[],[]⟩
def fX.NS:fX->cP
 |.mk _ _ _ _ _ q=>q
 |.iZ=>⟨[],[]⟩
def SY(P:fX)(a:E Nat):hs (P.q4 a) P.NS:=by
 unfold fX.q4;split
 .exact⟨λg v h=>zb _ _ g v h,λg v h=>zb _ _ g v h⟩
 .exact⟨λ_ _ h=>QN,λ_ _ h=>QN⟩
def NC{ops:Array dy}{y:dy}{i:ec}(cK:P.op=B (ops,y))(ab:mo u n ops y i)(cR:hs i.need P.NS)(Y:u6 i P.NS)(aj:Lq i)(g:TD u K n (P.push i) ah):TD u K n P ah:=by
 unfold fX.op at cK;split at cK
 .cases cK;rename_i s o p eU q;have⟨l,m,a,dI,G,b,d,j,k⟩:=g;refine⟨y::l,m,i::a,by rw[dI];rfl,.cons ab G,⟨⟨cR,Y,aj⟩,b⟩,?_,j,k⟩;rwa[U0,iu]at d
 .cases cK
def q8{ops:Array dy}{y:dy}{i:ec}(cK:P.op=B (ops,y))(ab:mo u n ops y i)(cR:i.need=P.need)(g:TD u K n (P.push i) ah)(a:i.BZ=T:=by rfl):TD u K n P ah:=by
 unfold fX.op at cK;split at cK
 .cases cK;rename_i s p t eU q;have⟨m,o,b,dI,G,d,j,k,l⟩:=g;refine⟨y::m,o,i::b,by rw[dI];rfl,.cons ab G,⟨⟨by rw[cR];exact abH _ _ _,TH a _,TI a⟩,d⟩,?_,k,l⟩;rwa[U0,iu]at j
 .cases cK
def ar_(h:TD u K n (Ui u n P) ah):TD u K n P ah:=by
 unfold Ui at h;split at h
 .rename_i ops y s a j eU q;split at h
  next i g=>have⟨⟨G,b⟩,d⟩:=akx g;exact q8 (P:=.mk ops (y::s) a j eU q) rfl G b h d
  .exact h.elim
 .exact h.elim
def fa:∀(g:Nat) {P:fX},TD u K n (goD u n g P) ah->TD u K n P ah
 |0,_,h=>h
 |g+1,_,h=>ar_<|fa g h
def vc(af:P.ok=T)(g:TS u K n P.done ah):TD u K n P ah:=by
 unfold fX.done at g;split at g
 .exact⟨[],[],[],rfl,.nil,trivial,by simpa[fX.ok]using af,aso _ _,QY g⟩
 .exact g.elim
def fX.rest:fX->dT
 |.mk ops s _ _ eU q=>.mk (.ops ops s::eU) .normal q
 |.iZ=>.iZ
def fX.ae3:fX->Bool
 |.mk ops s a b _ _=>Mg ops b a.reverse&&Hq ops (FA ops) (F s)
 |.iZ=>Z
def i7(af:P.ae3=T)(g:TS u K n P.rest ah):TD u K n P ah:=by
 cases P with
 |iZ=>cases af
 |mk ops s a b eU q=>simp only[fX.ae3,fz]at af;exact⟨[],s,[],rfl,.nil,trivial,by simpa using af.1,af.2,g⟩
def fX.ft(n:Nat)(P:fX):Bool:=match P.op with
 |some (a,y)=>(match hF a y P.need with|some T=>T|_=>Z)&&jB n y
 |none=>Z
def fX.dst(P:fX):X Tmp:=match P.op with
 |some (_,y)=>y.dst
 |none=>M
def rN(h:P.ft n=T):∃a y,P.op=B (a,y)/\hF a y P.need=B T/\jB n y=T/\P.dst=y.dst:=by
 unfold fX.ft at h;split at h
 .rename_i a y cK;simp only[fz]at h;refine⟨a,y,cK,?_,h.2,by simp[fX.dst,cK]⟩;have G:=h.1;split at G
  .assumption
  .cases G
 .cases h
def fX.ret(P:fX)(v:cT):fX:=P.push ⟨P.need,P.dst,v,M,Z,M,[]⟩
def nl(v:cT)(ar:P.ft n=T)(Y:∀a y,P.op=B (a,y)->jP u y P.need v)(g:TD u K n (P.ret v) ah):TD u K n P ah:=by have⟨a,y,cK,G,b,d⟩:=rN ar;unfold fX.ret at g;rw[d]at g;exact q8 cK (afl v G b<|Y a y cK) rfl g
def fX.fQ{D:Type}(P:fX)(f:cP->dy->X D):X D:=match P.op with
 |some (_,y)=>f P.need y
 |none=>M
def jW{D:Type}{f:cP->dy->X D}{l:D}(h:P.fQ f=B l){a:Array dy}{y:dy}(cK:P.op=B (a,y)):f P.need y=B l:=by unfold fX.fQ at h;rwa[cK]at h
def ahZ(f:ag->E V){s:E ag}{j:Int}{e:ag}(a:di s j=B e)(h:P.fQ (Bw u)=B (s.map f,j))(ar:P.ft n=T)(g:TD u K n (P.ret (.c (.e1 (f e)))) ah):TD u K n P ah:=nl _ ar (λ_ _ cK=>aaC a<|jW h cK) g
def rD(f:ag->E V)(sz:Nat){s a:E ag}{t l:Int}(b:g2 s t l=B a)(h:P.fQ (Hp u)=B (sz,s.map f,t,l))(ar:P.ft n=T)(g:TD u K n (P.ret (.c (.d_ sz 0 (F a) (a.map f)))) ah):TD u K n P ah:=nl _ ar (λ_ _ cK=>aaM b<|jW h cK) g
def AW{op:nL}{g b:g0}{A j:Int}{v:cT}{z:Prop}(Y:z)(ab:MG op g A j=B (v,z))(af:op=.shl\/op=.shr\/b=g)(h:P.fQ (L6 u)=B (op,g,b,A,j))(ar:P.ft n=T)(k:TD u K n (P.ret v) ah):TD u K n P ah:=by
 refine nl v ar (λt y cK=>?_) k;have G:=jW h cK;unfold L6 at G;split at G
 .rename_i s x a o C i;split at G
  next m q p l d ad=>cases G;exact(B2 A j af i d ad ab Y).jC
  .cases G
 .cases G
def ah3(d:Nat){e l:Bool}(a:e=l)(b:True)(ar:P.ft n=T)(h:P.fQ (λq y=>s9 u q y.op)=B (.c (.cY (.bool e))))(g:TD u K n (P.ret (.c (.cY (.bool l)))) ah):TD u K n P ah:=by subst a;exact nl _ ar (λ_ _ cK=>(Ca<|jW h cK).jC) g
def fX.callee(P:fX)(a:E (E Nat)):X (gk×E cT):=match P.op with
 |some (_,y)=>match lh P.need y with
  |some (f,b)=>B (f,m3 a b)
  |none=>M
 |none=>M
def Bi{b:E (E Nat)}{f:gk}{ak:E cT}(h:P.callee b=B (f,ak)){d:Array dy}{y:dy}(cK:P.op=B (d,y)):∃a,lh P.need y=B (f,a)/\m3 b a=ak:=by
 unfold fX.callee at h;rw[cK]at h;simp only at h;split at h
 next g a ab=>cases h;exact⟨a,ab,rfl⟩
 .cases h
def pN{f:gk}{ak:E cT}{r:cT}(a:E (E Nat))(Y:ih u f ak [] r [])(d:P.callee a=B (f,ak))(ar:(P.ft n&&iz u f&&r.eY V.il)=T)(g:TD u K n (P.ret r) ah):TD u K n P ah:=by simp only[fz]at ar;refine nl r ar.1.1 (λi y cK=>?_) g;have⟨j,G,b⟩:=Bi d cK;exact aaA a G ar.1.2 b ar.2 Y
def Zu{q ao:cP}(h:hs q ao):∀(s:E hp) (r:E cT),yQ q s=B r->yQ ao s=B r
 |[],r,ay=>ay
 |a::s,r,ay=>by
  simp only[yQ]at ay⊢;split at ay
  next v d ab b=>rwa[h.dZ ab,Zu h s d b]
  .cases ay
def hs.callee{q ao:cP}(h:hs q ao){y:dy}{f:gk}{b:E cT}(a:lh q y=B (f,b)):lh ao y=B (f,b):=by
 unfold lh at a⊢;split at a
 .rename_i i ae k cK;try rw[cK]
  try simp only
  split at a
  next j l d g=>rwa[h.dZ d,Zu h _ _ g]
  .cases a
 .cases a
def aee{f:Nat->Nat}{a:V}(h:a.hZ (λ_=>Z)=T):a.pn f=a:=by
 cases a with
 |d_ q tag n ae=>
  rcases tag with _|_|d
  .rfl
  .rfl
  .simp[V.hZ]at h
 |cY v=>rfl
 |e1 b=>rfl
 |gf c b=>rfl
 |box i aq=>simp[V.hZ]at h
 |dk i=>simp[V.hZ]at h
 |row i n=>simp[V.hZ]at h
 |ip i y n=>simp[V.hZ]at h
 |sub i y n A=>simp[V.hZ]at h
 |hn i y n A=>simp[V.hZ]at h
 |gQ i=>simp[V.hZ]at h
 |hV i j y=>simp[V.hZ]at h
 |any=>rfl
def TV{f:Nat->Nat}{a:V}(h:a.il=T):a.fD f=a:=by
 cases a with
 |gf c b=>simp only[V.fD];congr 1;refine(pw λo ad=>aee<|fp.1 h o ad).trans<|Cp _
 |cY v=>rfl
 |e1 b=>rfl
 |d_ q tag n ae=>exact aee (a:=.d_ q tag n ae) h
 |box i aq=>simp[V.il,V.fn,V.hZ]at h
 |dk i=>simp[V.il,V.fn,V.hZ]at h
 |row i n=>simp[V.il,V.fn,V.hZ]at h
 |ip i y n=>simp[V.il,V.fn,V.hZ]at h
 |sub i y n A=>simp[V.il,V.fn,V.hZ]at h
 |hn i y n A=>simp[V.il,V.fn,V.hZ]at h
 |gQ i=>simp[V.il,V.fn,V.hZ]at h
 |hV i j y=>simp[V.il,V.fn,V.hZ]at h
 |any=>rfl
def arf{f:Nat->Nat}{v:cT}(h:v.eY V.il=T):v.map (V.fD f)=v:=by
 cases v with
 |c a=>simp only[cT.map];rw[TV h]
 |agg b=>simp only[cT.map];congr 1;exact(pw λo ad=>TV<|fp.1 h o ad).trans<|Cp _
 |eu d=>simp only[cT.map];congr 1;refine(pw λo ad=>?_).trans<|Cp _;have G:=fp.1 h o ad;have:o.2.map (V.fD f)=o.2:=(pw λan N=>TV<|fp.1 G an N).trans<|Cp _;rw[this]
def arL{z C:Nat->Bool}(h:∀i,z i=T->C i=T){a:V}(d:a.fn z=T):a.fn C=T:=by
 have dI:∀o:V,o.hZ z=T->o.hZ C=T:=by
  intro o ad;cases o with
  |d_ q tag n ae=>
   rcases tag with _|_|g
   .rfl
   .rfl
   .exact h g ad
  |cY v=>rfl
  |e1 b=>rfl
  |gf c b=>rfl
  |box i aq=>exact h i ad
  |dk i=>exact h i ad
  |row i n=>exact h i ad
  |ip i y n=>exact h i ad
  |sub i y n A=>exact h i ad
  |hn i y n A=>exact h i ad
  |gQ i=>exact h i ad
  |hV i j y=>exact h i ad
  |any=>rfl
 cases a with
 |gf c b=>exact fp.2 λo ad=>dI o<|fp.1 d o ad
 |cY v=>rfl
 |e1 b=>rfl
 |d_ q tag n ae=>exact dI (.d_ q tag n ae) d
 |box i aq=>exact dI (.box i aq) d
 |dk i=>exact dI (.dk i) d
 |row i n=>exact dI (.row i n) d
 |ip i y n=>exact dI (.ip i y n) d
 |sub i y n A=>exact dI (.sub i y n A) d
 |hn i y n A=>exact dI (.hn i y n A) d
 |gQ i=>exact dI (.gQ i) d
 |hV i j y=>exact dI (.hV i j y) d
 |any=>rfl
def R_{z C:V->Bool}(h:∀a,z a=T->C a=T){v:cT}(ab:v.eY z=T):v.eY C=T:=by
 cases v with
 |c a=>exact h a ab
 |agg b=>exact fp.2 λo ad=>h o<|fp.1 ab o ad
 |eu g=>exact fp.2 λa d=>fp.2 λo ad=>h o<|fp.1 (fp.1 ab a d) o ad
def akH(r:eD):r.eY (V.fn λi=>(cO ([]:E (Nat×Nat)) i).isNone)=T:=by cases r<;>simp[eD.eY,cO,V.B9]
def asT{ops:Array dy}{y:dy}{ao:cP}{f:gk}{l ak:E cT}{r:cT}(k:E (E Nat))(i aq:Nat)(j b g:E V)(z:hF ops y ao=B T)(x:jB n y=T)(p:lh ao y=B (f,l))(o:iz u f=T)(m:m3 k l=ak.map (zp i aq))(A:ak.all cT.xa=T)
  (cN:cO ao.Y i=B (.box j))(s:b.all V.il=T)(t:g.all V.il=T)(D:(j.drop aq).take (F b)=b)(aP:F g=F b)(aU:aq+F b<=F j)(ay:r.eY V.il=T)(Y:ih u f ak [(1000000,.box b)] r [(1000000,.box g)]):
  mo u n ops y ⟨ao,y.dst,r,B (i,.box<|lC j aq g),Z,M,[]⟩:=by
 intro K q aj _;have aW:vN q [(1000000,.box g)] r [] y.dst=T:=by
  simp only[vN,List.all_nil,Bool.true_and,fz,fp];refine⟨⟨⟨λC _=>?_,λC _=>akH C.2⟩,R_ (λa d=>arL (λi h=>o0) d) ay⟩,λC ap=>?_⟩
  .simp only[lc];refine .inr ?_;have:(λi=>(cO ([]:E (Nat×Nat)) i).isNone)=λ_=>T:=by funext i;rfl
   rw[this];cases C.2<;>simp[cT.eY,V.B9]
  .simp only[List.mem_singleton]at ap;subst ap;rfl
 have:=XG (u:=u) (K:=K) (n:=n) (ops:=ops) (y:=y) (q:=q) (h:=[(1000000,.box b)]) k [] (B (i,aq)) (aj.guard z) x (aj.callee p) o m A ⟨j,b,g,aj.h _ _ cN,rfl,rfl,s,t,D,aP,aU,rfl⟩ aW Y;refine this.jU ?_;have aG:(q.after [(1000000,.box g)] r [] (B (i,aq)) y.dst)=(q.f3 i<|.box<|lC j aq g).put y.dst r:=by simp only[cP.after,t7,y5,io,if_true,aj.h _ _ cN,arf ay,cP.f3]
 rw[aG];exact lA.refl _
def AV{f:gk}{ak:E cT}{r:cT}{C D:fK}(j:E (E Nat))(i aq:Nat)(d a b:E V)(Y:ih u f ak [(1000000,.box a)] r [(1000000,.box b)])(z:P.callee j=B (f,ak.map (zp i aq)))(cN:cO P.need.Y i=B (.box d))(A:(d.drop aq).take (F a)=a)(ar:(P.ft n&&iz u f&&ak.all cT.xa&&a.all V.il&&b.all V.il&&decide (F b=F a)&&decide (aq+F a<=F d)&&r.eY V.il)=T)
  (g:TD u K n (P.push ⟨P.need,P.dst,r,B (i,.box<|lC d aq b),Z,M,[]⟩) ah):TD u K n P ah:=by
 simp only[fz,i6]at ar;have⟨⟨⟨⟨⟨⟨⟨aS,aN⟩,a2⟩,k⟩,l⟩,m⟩,o⟩,p⟩:=ar;have⟨N,y,cK,G,q,s⟩:=rN aS;have⟨Q,t,x⟩:=Bi z cK;rw[s]at g;exact q8 cK (asT j i aq d a b G q t aN x a2 cN k l A m o p Y) rfl g
def pU(s:E (Nat×cT)):E (Nat×cT):=s.map λz=>(z.1+2000000,z.2)
def n4:E (Nat×cT)->E (Nat×cT)
 |[]=>[]
 |z::s=>if z.1<2000000 then n4 s else(z.1-2000000,z.2)::n4 s
def Gs:∀(s:E (Nat×cT)) (a:Nat),cO (n4 s) a=cO s (a+2000000)
 |[],a=>rfl
 |z::s,a=>by
  have⟨g,v⟩:=z;simp only[n4];split
  next h=>rw[Gs s a,io,dA I]
  .rename_i h;rw[io,io,Gs s a];by_cases af:g=a+2000000
   .rw[dE af,dE I]
   .rw[dA af,dA I]
def MU{ag:Type}:∀(s d:E (Nat×ag)) (b:Nat) (v:ag),cO (s++d) b=B v->cO s b=B v\/cO d b=B v
 |[],_,_,_,h=>.inr h
 |(g,a)::s,d,b,v,h=>by
  rw[r8,io]at h;rw[io];split at h
  next af=>rw[dE af];exact .inl h
  next af=>rw[dA af];exact MU s d b v h
def SR:∀(s:E (Nat×cT)) (b:Nat) (v:cT),cO (pU s) b=B v->2000000<=b/\cO s (b-2000000)=B v
 |[],b,v,h=>by simp[pU,cO]at h
 |(g,a)::s,b,v,h=>by
  simp only[pU,hx,io]at h;split at h
  next af=>subst af;cases h;exact⟨I,by rw[io,dE I]⟩
  next af=>have:=SR s b v h;exact⟨this.1,by rw[io,dA I];exact this.2⟩
def fb.oB(K:fb)(a:Nat->X dp):fb:=⟨K.r6,K.may,K.TP,K.TJ,a,K.ok⟩
def NP(K:fb)(f:Nat->X dp)(t:Act)(a:Nat)(h:2000000<=a):p3 (K.oB f) t a=f (a-2000000):=by rw[p3,dA dd];rfl
def By(u:dw)(K:fb)(n:Nat)(N:dT)(a:E qy)(ah:fE->cP->Prop):fE->cP->Prop
 |.normal,q=>∃ae r,ll u q [] a=B ae/\ma ae=B r/\TS u K n (N.next<|cP.put ⟨n4 q.tmps,q.Y⟩ N.dst r) ah
 |.ret,q=>∃ae r,ll u q [] a=B ae/\ma ae=B r/\TS u K n (N.next<|cP.put ⟨n4 q.tmps,q.Y⟩ N.dst r) ah
 |_,_=>False
theorem X7{f:gk}{ak:E cT}{b:n5}{c:k7}(A:Nat)(an:u.funcs[f]?=B b)(al:b.body=B c)(cR:b.ntmps=A)(am:N.callee []=B (f,ak))(ar:(N.ft n&&iz u f&&decide (F ak<=A/\A<=2000000))=T)
  (g:∀m,TS u m A (.mk [.code c] .normal ⟨lV 0 ak++pU N.d1.tmps,N.d1.Y⟩)<|By u K n N b.results.toList ah):TS u K n N ah:=by
 simp only[fz,i6]at ar;have⟨⟨aS,aN⟩,cN,aq⟩:=ar;have⟨aa,y,cK,G,i,j⟩:=ph aS;have⟨l,o,af⟩:=FI am cK;have av:l=ak:=by cases l<;>simpa[m3]using af
 subst av;have ag:∃s eU q,N=.mk (.ops aa (y::s)::eU) .normal q:=by
  unfold dT.op at cK;split at cK
  .cases cK;exact cU
  .cases cK
 obtain⟨s,eU,q,rfl⟩:=ag;simp only[dT.d1,j]at*;intro t w eM;have⟨x,r⟩:=eM;refine wpList_step λm aj=>?_
 have aw:=Mu (t:=t) G (λd v ax ab=>let⟨p,G,i⟩:=r.kM.tmps d v ax ab;ef);rw[dE aw];have⟨P,aC,au,aL⟩:=vp o aN<|r.kM.o y;unfold ln;rw[aL];simp only[ly];have hS:gW (K.oB<|p3 K t) x A {tmps:=P++Cg (b.ntmps-P.size) undef,defers:=[]} w ⟨lV 0 l++pU q.tmps,q.Y⟩:=by
  refine⟨rfl,fv,aq,⟨r.eV.gJ,r.eV.gg,r.eV.may,r.eV.lR,r.eV.rL,r.eV.iA⟩,λd v ab=>?_⟩;rcases MU _ _ _ _ ab with ab|ab
  .have⟨_,i⟩:=BD l 0 d v ab;have⟨p,j,o⟩:=au (d-0) v i;simp only[ti]at j;refine⟨p,?_,o⟩;have bg:=(l4.1 j).1;rw[p3,dE I];rwa[r_ bg]
  .have⟨k,z⟩:=SR _ _ _ ab;have⟨p,aA,ay⟩:=r.tmps _ _ z;refine⟨p,?_,ay⟩;rwa[NP _ _ _ _ k]
 refine calls_of_wp an al (wp_mono (g _ _ w ⟨x,hS⟩) λe Q aE ap=>?_);have⟨ao,⟨ai,a⟩,C⟩:=ap;have S:(∃ae D,ll u ao [] b.results.toList=B ae/\ma ae=B D/\TS u K n (.mk (.ops aa s::eU) .normal<|cP.put ⟨n4 ao.tmps,ao.Y⟩ y.dst D) ah)->Q.defers=[]/\∃v,(results b Q.tmps).run u aE=.ok v aE/\m (t.put y.dst v) aE:=by rintro⟨ae,D,aG,aD,aQ⟩;have⟨p,aH,ad⟩:=NJ a.kM aG aD;refine⟨a.defers,p,aH,aj _ _ (aQ _ _ ⟨ai,gW.put (K:=K) (q:=⟨n4 ao.tmps,ao.Y⟩) ⟨r.defers,r.size,r.oo,⟨a.eV.gJ,a.eV.gg,a.eV.may,a.eV.lR,a.eV.rL,a.eV.iA⟩,λd v ab=>?_⟩ y.dst (nG i) ad⟩)⟩;simp only at ab;rw[Gs]at ab;have⟨az,k,z⟩:=a.tmps _ _ ab;rw[NP _ _ _ _ (Nat.le_add_left _ _),Nat.add_sub_cancel]at k;exact⟨az,k,z⟩
 cases e<;>simp only[mE,By]at C<;>simp only[bodyPost]
 case normal=>exact S C
 case ret=>exact S C
inductive cQ where
 |c_
 |part (t A:Nat)
def cQ.cL{ag:Type}:cQ->E ag->E ag
 |.c_,s=>s
 |.part t A,s=>(s.drop t).take A
def cQ.map{ag D:Type}(f:ag->D)(c:cQ)(s:E ag):c.cL (s.map f)=(c.cL s).map f:=by
 cases c with
 |c_=>rfl
 |part t A=>simp[cQ.cL,List.map_take,List.map_drop]
def u_(rd:ez)(w:d2)(p:dp)(sz:Nat)(ae:E (E V)):Prop:=∃t c aF,p=.slice t (F ae) c/\F aF=F ae*sz/\hK rd sz aF ae/\(ae=[]\/∃a,t=B a/\∀m v,aF[m]?=B v->w.cell? (a.add m)=B v)/\F ae<=c/\c<=maxLen/\∀a,t=B a->ae=[]\/∃l y,a=⟨l,y,M⟩
def mU(q:cP)(sz:Nat):cT->X (E (E V)×cQ)
 |.c (.cY (.slice M 0 0))=>B ([],.c_)
 |.c (.d_ ao _ _ ae)=>if ao=sz then B (ae,.c_)else M
 |.c (.dk i)=>match cO q.Y i with
  |some (.row _ ao _ ae)=>if ao=sz then B (ae,.c_)else M
  |_=>M
 |.c (.row i A)=>match cO q.Y i with
  |some (.row _ ao _ ae)=>if ao=sz then B (ae,.part 0 A)else M
  |_=>M
 |.c (.sub i d t A)=>match cO q.Y i with
  |some (.row _ ao _ ae)=>if ao=sz/\d=sz then B (ae,.part t A)else M
  |_=>M
 |.c (.ip i aq A)=>match q.lj i with
  |some b=>match y6 ((b.drop aq).take A)with
   |some a=>if sz=1/\F a=A then B (a.map λc=>[c],.c_)else M
   |none=>M
  |none=>M
 |_=>M
theorem hK.je{rd:ez}{sz:Nat}{P:E dp}{ae:E (E V)}(h:hK rd sz P ae)(t A:Nat):hK rd sz ((P.drop (t*sz)).take (A*sz)) ((ae.drop t).take A):=by
 refine⟨λa d=>h.1 a ef,λj a m o d ad=>?_⟩;rw[jd]at d;split at d
 .rename_i hi;rw[j2]at d;have⟨p,G,b⟩:=h.2 _ a m o d ad;refine⟨p,?_,b⟩;have aw:m<sz:=by have:=(ie.1 ad).1;rwa[h.1 a (lp d)]at this
  have aX:j*sz+m<A*sz:=by
   calc j*sz+m<j*sz+sz:=by omega
    _=(j+1)*sz:=yz
    _<=A*sz:=j1 _ hi
  rwa[jd,dE aX,j2,<-lH,<-jZ]
 .cases d
def xq{w:d2}{e sz n:Nat}{o:dp}{P:E dp}(h:w.s5 e sz o n P):∃t c,o=.slice t n c/\n<=c/\c<=maxLen/\mc o=n/\(n=0\/∃l,t=B ⟨l,0,M⟩/\o.ownBlock=B l):=by
 rcases h.2 with⟨G,a⟩|⟨aW,aV,ao,d,G,_,_,a,b,_⟩
 .subst a;exact⟨M,0,G,jq _,E3,Lk,.inl rfl⟩
 .exact⟨_,aV,G,a,b,Lk,.inr ⟨aW,rfl,Lk⟩⟩
def kK{w:d2}{e sz n:Nat}{o:dp}{P:E dp}(h:w.ownsRow 0 e sz o n P):∃t c,o=.slice t n c/\n<=c/\c<=maxLen/\mc o=n/\(n=0\/∃l,t=B ⟨l,0,M⟩/\o.ownBlock=B l):=xq h.m
theorem r3{q:cP}{sz:Nat}{v:cT}{ae:E (E V)}{c:cQ}(h:mU q sz v=B (ae,c)){x:dY}{rd:ez}{t:Act}{w:d2}{y:dy}(ab:lJ x rd t w q y){p:dp}(aA:fM rd x p v):u_ rd w p sz (c.cL ae):=by
 unfold mU at h;split at h
 .cases h;rw[hw aA];exact⟨M,0,[],rfl,wH,⟨wH,wH⟩,.inl rfl,jq _,E3,λ_ _=>.inl rfl⟩
 .split at h
  .rename_i aj;subst aj;cases h;have⟨G,_⟩:=aA;obtain⟨aE,aJ,aF,b|⟨z,c,s,al,_⟩⟩:=aeN ab.oy G
   .have⟨s,aK,aL,al,g,k⟩:=b;refine⟨aE,aJ,aF,s,g,al,?_,aK,aL,λz ap=>?_⟩
    .rcases k with k|k
     .exact .inl<|mw k
     .exact .inr k
    .subst ap;cases G with
     |nil ao t c aT=>exact .inl rfl
     |d_ l y n c ao am aZ cR a0 aT aj ay aA=>cases s;exact .inr ⟨_,_,rfl⟩
   .subst al;obtain⟨aB,an,s,aO⟩:∃z c,p=.slice z 0 c/\c<=maxLen:=ef;exact⟨aB,an,[],s,wH,⟨wH,wH⟩,.inl rfl,ny _,aO,λ_ _=>.inl rfl⟩
  .cases h
 .rename_i i;split at h
  .rename_i e ao n am cN;split at h
   .rename_i aj;subst aj;cases h;have⟨P,G,b,s⟩:=ab.gg i _ cN;obtain⟨rfl,_⟩:=aA;have⟨l,c,al,aM,af,_,g⟩:=kK G;refine⟨l,c,P,Xm,by simp only[cQ.cL];rw[b];exact G.1,s,?_,o1,af,λz ap=>?_⟩
    .rcases g with g|⟨N,g,k⟩
     .exact .inl<|mw<|b.trans g
     .exact .inr ⟨_,g,G.cells k⟩
    .rcases g with g|⟨N,g,k⟩
     .exact .inl<|mw<|b.trans g
     .rw[g]at ap;cases ap;exact .inr ⟨_,_,rfl⟩
   .cases h
  .cases h
 .rename_i i A;split at h
  .rename_i e ao n am cN;split at h
   .rename_i aj;subst aj;cases h;have⟨P,G,b,s⟩:=ab.gg i _ cN;obtain⟨K,Q,aH,D,rfl,ah⟩:=aA;have⟨l,c,al,aM,af,_,g⟩:=kK G;rw[al]at D;cases D;have aP:F (cQ.cL (.part 0 A) ae)=A:=ag9;have aQ:=s.je 0 A;refine⟨_,_,(P.drop<|0*ao).take<|A*ao,sD,?_,aQ,?_,tL,af,λz ap=>?_⟩
    .rw[aP,zD,v4,hO,G.1];exact jw<|j1 _ ah
    .rcases g with g|⟨N,g,k⟩
     .left;exact mw tL
     .refine .inr ⟨_,g,λm v aw=>G.cells k m v ?_⟩;rw[zD,v4,jd]at aw;split at aw
      .exact aw
      .cases aw
    .rcases g with g|⟨N,g,k⟩
     .left;exact mw tL
     .rw[g]at ap;cases ap;exact .inr ⟨_,_,rfl⟩
   .cases h
  .cases h
 .rename_i i az K A;split at h
  .rename_i e ao n am cN;split at h
   .rename_i aj;obtain⟨rfl,rfl⟩:=aj;cases h;have⟨P,G,b,s⟩:=ab.gg i _ cN;obtain⟨l,Q,c,a,aH,D,ax,rfl,u,aX,C⟩:=aA;have⟨aY,an,al,_,_,_,g⟩:=kK G;rw[al]at D;cases D;have aP:F (cQ.cL (.part K A) ae)=A:=ag_;refine⟨_,_,(P.drop<|K*az).take<|A*az,sD,?_,s.je K A,?_,tL,aX,λz ap=>?_⟩
    .rw[aP,hO,my,G.1,<-Nat.sub_mul];exact jw<|j1 _ I
    .rcases C with C|⟨lf,C,ai⟩
     .left;exact mw tL
     .rcases g with g|⟨N,g,k⟩
      .left;exact mw tL
      .rw[C]at g;cases g;refine .inr ⟨_,ai,λm v aw=>?_⟩;rw[jd]at aw;split at aw
       .rw[j2]at aw;have:=G.cells k _ v aw;rw[iS]at this⊢;rwa[gx]at this
       .cases aw
    .rcases C with C|⟨lf,C,ai⟩
     .left;exact mw tL
     .rw[ai]at ap;cases ap;exact .inr ⟨_,_,rfl⟩
   .cases h
  .cases h
 .rename_i i aq A;split at h
  .rename_i aI cN;split at h
   .rename_i aa aV;split at h
    .rename_i aj;obtain⟨rfl,aj⟩:=aj;cases h;obtain⟨ak,c,rfl,ax,ah,u⟩:=aA;have⟨a1,aW⟩:=Ga _ _ aV;have aN:=ab.box i aI cN;have aR:∃aF:E dp,F aF=A/\∀m v,aF[m]?=B v->w.cell? ⟨(x.dn i).1,(x.dn i).2+aq+m,M⟩=B v/\∃o,aa[m]?=B o/\h2 rd v o:=by refine⟨(jG A).map λm=>(w.cell? ⟨(x.dn i).1,(x.dn i).2+aq+m,M⟩).getD undef,dh,λm v aw=>?_⟩;rw[gy]at aw;obtain⟨a2,S,rfl⟩:=gG.1 aw;have ag:=(ie.1 S).1;rw[e6 ag]at S;simp only[zB,h0]at S;subst S;rw[tl]at ag;have ad:m<F aa:=I;have⟨a,ar,aU⟩:=aW m _ (e6 ad);rw[jd,dE ag,j2]at ar;have⟨p,aC,au⟩:=aN (aq+m) a ar;rw[<-lH]at aC;refine⟨by rw[aC];rfl,aa[m],e6 ad,?_⟩;rw[aC];exact Gb au aU
     have⟨aF,aG,aD⟩:=aR;have aP:F (cQ.cL .c_ (aa.map λc=>[c]))=A:=by simp[cQ.cL,aj]
     refine⟨ak,c,aF,sD,by rw[aP,aG,uq],⟨wH,λj a m o d ad=>?_⟩,?_,by rw[aP];exact ax,ah,λz ap=>?_⟩
     .simp only[cQ.cL,gy]at d;obtain⟨a3,av,rfl⟩:=gG.1 d;have aS:m=0:=by have:=(ie.1 ad).1;simp at this;exact this
      subst aS;simp at ad;subst ad;have hi:j<F aF:=by have:=(ie.1 av).1;omega
      have⟨_,a4,aC,au⟩:=aD j _ (e6 hi);rw[av]at aC;cases aC;exact⟨_,by rw[uq,jO];exact e6 hi,au⟩
     .rcases u with u|u
      .left;exact mw (by rw[aP];exact u)
      .exact .inr ⟨_,u,λm v aw=>by rw[iS];exact(aD m v aw).1⟩
     .rcases u with u|u
      .left;exact mw (by rw[aP];exact u)
      .rw[u]at ap;cases ap;exact .inr ⟨_,_,rfl⟩
    .cases h
   .cases h
  .cases h
 .cases h
theorem u_.one{rd:ez}{sz:Nat}{aF:E dp}{ae:E (E V)}(aj:0<sz)(cN:F aF=F ae*sz)(h:hK rd sz aF ae)(G:∀a∈ae,a.all V.one=T):∀p∈aF,p.oneCell'=T:=by
 intro p j;obtain⟨g,af,rfl⟩:=N_ j;have l:g<F ae*sz:=I;have b:g/sz<F ae:=Ob ef;have k:=e6 b;have i:=h.1 _ (fi b);have d:g%sz<F (ae[g/sz]):=by rw[i];exact zC _ aj
 have⟨v,aC,au⟩:=h.2 _ _ _ _ k<|e6 d;rw[show g/sz*sz+g%sz=g by have:=Oc g sz;rw[re]at this;omega,e6 af]at aC;cases aC;exact Nr au<|fp.1 (G _ (fi b)) _ cU
theorem T4{u:dw}{w:d2}(i q e:f1)(j:n9)(an:dp)(sz z:Nat)(ax:u.underlying i=B (.slice e))(hi:u.info? e=B j)(N:j.zero=B an)(ai:j.size=sz)(am:j.bytes=z)(K:an.cells.size=sz)(aU:0<sz)
  (o:dp)(n:Nat)(P:E dp)(aZ:w.ownsRow 0 e sz o n P)(k:mX)(A c:Nat)(aF:E dp)(cN:F aF=A*sz)(x:∀m p,aF[m]?=B p->w.cell? (k.add m)=B p)(G:∀p∈aF,p.oneCell'=T)(ah:0<A)
  (aI:n+A<=maxLen)(a:(n+A)*z<=140737488355328):
  ∃aY aE,(qz #[i,i] q #[o,.slice (B k) A c]).run u w=.ok aY aE/\aE.ownsRow 0 e sz aY (n+A) (P++aF)/\fL w (λl y=>o.ownBlock=B l/\n*sz<=y) aE/\∀g,aY.ownBlock=B g->o.ownBlock=B g\/w.heap.size<=g:=by
 subst ai;subst am;have al:n+A<=9223372036854775807:=aha;have aP:F (P++aF)=(n+A)*j.size:=ahb;have C:∀(ag:Nat),ag<n+A->
   (w.drew.alloc<|.cells (P.toArray++aF.toArray++nJ an.cells (grownCap w (n+A) ag e-(n+A))) e).ownsRow 0 e j.size
     (.slice (B ⟨w.heap.size,0,M⟩) (n+A)<|grownCap w (n+A) ag e) (n+A) (P++aF)/\
   fL w (λl y=>o.ownBlock=B l/\n*j.size<=y) (w.drew.alloc<|.cells (P.toArray++aF.toArray++nJ an.cells (grownCap w (n+A) ag e-(n+A))) e):=by
  intro ag cK;have S:=grownCap_ge w (n+A) ag e;have aB:grownCap w (n+A) ag e<=maxLen:=grownCap_le_maxLen w (n+A) ag e aI;refine⟨⟨aP,.inr ⟨w.heap.size,_,_,rfl,ny _,heap_alloc_new w.drew _,S,aB,?_,?_⟩⟩,(fL.rS<|(Ext.drew w).trans<|Ext.alloc _ _).kN cU⟩
  .simp only[zE,qA,size_zeroCells,K,aZ.1,cN,<-jZ];congr 1;omega
  .simp only[ul,iu];rw[<-iu,<-aP];exact rg
 rcases aZ.2 with⟨rfl,rfl⟩|⟨aW,aV,ao,rfl,Q,s,ak,aB,ab,aj⟩
 .have d:P=[]:=mw cU;subst d;have ay:=run_append_nil (P:=u) w i q e j an ax hi N k A c aF cN x ah I ahc;have b:=C 0 I;simp only[gx,k8,U1]at b⊢;exact⟨_,_,ay,b.1,b.2,λg af=>.inr AR⟩
 .by_cases t:n+A<=aV
  .have ad:n*j.size+F aF<=ao.size:=by rw[cN,ab,<-jZ];exact j1 _ t
   have ay:=run_append_room (P:=u) w i q e j ax hi aW n aV ao s k A c aF cN x G t ad;refine⟨_,_,ay,⟨aP,.inr ⟨aW,aV,_,rfl,Q,setRow_heap w aW ao _ e _ s,t,aB,?_,?_⟩⟩,⟨rfl,rfl,rfl,dh,λl aa=>?_⟩,λg af=>.inl lB⟩
   .simp only[qA,g9,hO,my,pz];omega
   .rw[aj,<-aP];exact rg
   .by_cases D:l=aW
    .subst D;refine .inr (.inl ⟨ao,_,e,(0,0),s,setRow_heap w l ao _ e _ s,?_,λm aw=>?_⟩)
     .simp only[qA,g9,hO,my,pz];omega
     .have ae:m<n*j.size:=by
       rcases la m (n*j.size)with h|h
       .exact h
       .exact absurd ⟨rfl,h⟩ aw
      rw[HB,iu,tj ahd,jd,dE ae];simp
    .exact .inl<|setRow_other w aW l _ D
  .have gg:∀m p,P[m]?=B p->w.cell? ((⟨aW,0,M⟩:mX).add m)=B p:=aZ.cells rfl;have ay:=run_append_grow (P:=u) w i q e j an ax hi N ⟨aW,0,M⟩ n aV P aZ.1 gg k A c aF cN x I I<|growslice_fits I a;have b:=C aV I;exact⟨_,_,ay,b.1,b.2,λg af=>.inr AR⟩
theorem aew(u:dw)(x y:Nat)(b:f1)(a:Nat×Nat):∀(d:E dp) (j:Nat) (ao:Array dp) (w:d2),w.heap[x]?=B (.cells ao b a)->afa a ao.size->y+j+F d<=ao.size->(∀v∈d,v.oneCell'=T)->
  (storeCells ⟨x,y,M⟩ d j).run u w=.ok () (w.setRow x (ao.toList.take (y+j)++d++ao.toList.drop (y+j+F d)).toArray)
 |[],j,ao,w,ar,_,_,_=>by simp only[storeCells,nb,kv,jO,List.take_append_drop,lF];rw[setRow_self w x ao b a ar];rfl
 |v::g,j,ao,w,ar,m,cN,G=>by
  have hi:y+j<ao.size:=by simp at cN;omega
  have i:(⟨x,y,M⟩:mX).add j=⟨x,y+j,M⟩:=ahh;have k:w.cell? ⟨x,y+j,M⟩=B ao[y+j]:=by simp[HT,ar,hi]
  have l:w.frozen? ⟨x,y+j,M⟩=Z:=by have:=m _ hi;have⟨s,q⟩:=a;simp only[sg,ar,Bool.and_eq_false_iff,decide_eq_false_iff_not];simp only at this;omega
  have o:(store ((⟨x,y,M⟩:mX).add j) v).run u w=.ok () (w.setRow x<|ao.setIfInBounds (y+j) v):=by rw[i,run_store u w _ v _ cU,k];simp[l,setCell_eq_setRow w x (y+j) ao b a v ar]
  have p:=aew u x y b a g (j+1) (ao.setIfInBounds (y+j) v) (w.setRow x<|ao.setIfInBounds (y+j) v) (setRow_heap w x ao _ b _ ar) cU ef cU;simp only[storeCells,g3,o,gn,p,setRow_setRow];congr 3;have e:=list_seg_step ao.toList (y+j) v g lB;simpa[Array.toList_setIfInBounds,lH]using e
theorem arC{u:dw}{w:d2}(b q e:f1)(j:n9)(an:dp)(sz D:Nat)(ax:u.underlying b=B (.slice e))(hi:u.info? e=B j)(N:j.zero=B an)(ap:j.size=sz)(am:j.bytes=D)(K:an.cells.size=sz)(aU:0<sz)
  (o:dp)(n:Nat)(P:E dp)(aZ:w.s5 e sz o n P)(i:mX)(A c:Nat)(aF:E dp)(cN:F aF=A*sz)(z:∀m p,aF[m]?=B p->w.cell? (i.add m)=B p)(G:∀p∈aF,p.oneCell'=T)(al:0<A)
  (aI:n+A<=maxLen)(a:(n+A)*D<=140737488355328):
  ∃aY aE,(qz #[b,b] q #[o,.slice (B i) A c]).run u w=.ok aY aE/\aE.s5 e sz aY (n+A) (P++aF)/\fL w (λl y=>o.ownBlock=B l/\n*sz<=y) aE/\∀g,aY.ownBlock=B g->o.ownBlock=B g\/w.heap.size<=g:=by
 subst ap;subst am;have av:n+A<=9223372036854775807:=aha;have aP:F (P++aF)=(n+A)*j.size:=ahb;have Q:∀(ag:Nat),ag<n+A->
   (w.drew.alloc<|.cells (P.toArray++aF.toArray++nJ an.cells (grownCap w (n+A) ag e-(n+A))) e).s5 e j.size
     (.slice (B ⟨w.heap.size,0,M⟩) (n+A)<|grownCap w (n+A) ag e) (n+A) (P++aF)/\
   fL w (λl y=>o.ownBlock=B l/\n*j.size<=y) (w.drew.alloc<|.cells (P.toArray++aF.toArray++nJ an.cells (grownCap w (n+A) ag e-(n+A))) e):=by
  intro ag cK;have S:=grownCap_ge w (n+A) ag e;have aB:grownCap w (n+A) ag e<=maxLen:=grownCap_le_maxLen w (n+A) ag e aI;refine⟨⟨aP,.inr ⟨w.heap.size,_,_,(0,0),rfl,heap_alloc_new w.drew _,λm _ C=>VD _ C.2,S,aB,?_,?_⟩⟩,(fL.rS<|(Ext.drew w).trans<|Ext.alloc _ _).kN cU⟩
  .simp only[zE,qA,size_zeroCells,K,aZ.1,cN,<-jZ];congr 1;omega
  .simp only[ul,iu];rw[<-iu,<-aP];exact rg
 rcases aZ.2 with⟨rfl,rfl⟩|⟨aW,aV,ao,x,rfl,s,ai,au,aB,ad,aq⟩
 .have d:P=[]:=mw cU;subst d;have ay:=run_append_nil (P:=u) w b q e j an ax hi N i A c aF cN z al I ahc;have k:=Q 0 I;simp only[gx,k8,U1]at k⊢;exact⟨_,_,ay,k.1,k.2,λg af=>.inr AR⟩
 .by_cases t:n+A<=aV
  .have ar:n*j.size+F aF<=ao.size:=by rw[cN,ad,<-jZ];exact j1 _ t
   have aj:=run_firstCells_some (P:=u) w j.size A i A c aF cN z;have ae:=aew u aW (n*j.size) e x aF 0 ao w s ai lB G;simp only[jO]at ae;have ay:(qz #[b,b] q #[.slice (B ⟨aW,0,M⟩) n aV,.slice (B i) A c]).run u w=.ok (.slice (B ⟨aW,0,M⟩) (n+A) aV) (w.setRow aW (ao.toList.take (n*j.size)++aF++ao.toList.drop (n*j.size+F aF)).toArray):=by simp[qz,run_underlying ax,sizeOf,typeInfo,hi,v3,t,aj,Addr.add_lit,ae]
   have ah:(ao.toList.take (n*j.size)++aF++ao.toList.drop (n*j.size+F aF)).toArray.size=ao.size:=by simp only[qA,g9,hO,my,pz];omega
   refine⟨_,_,ay,⟨aP,.inr ⟨aW,aV,_,x,rfl,setRow_heap w aW ao _ e _ s,by rw[ah];exact ai,t,aB,?_,?_⟩⟩,⟨rfl,rfl,rfl,dh,λl aa=>?_⟩,λg af=>.inl lB⟩
   .rw[ah];exact ad
   .rw[aq,<-aP];exact rg
   .by_cases ab:l=aW
    .subst ab;refine .inr (.inl ⟨ao,_,e,x,s,setRow_heap w l ao _ e _ s,?_,λm aw=>?_⟩)
     .simp only[qA,g9,hO,my,pz];omega
     .have ak:m<n*j.size:=by
       rcases la m (n*j.size)with h|h
       .exact h
       .exact absurd ⟨rfl,h⟩ aw
      rw[HB,iu,tj ahd,jd,dE ak];simp
    .exact .inl<|setRow_other w aW l _ ab
  .have gg:∀m p,P[m]?=B p->w.cell? ((⟨aW,0,M⟩:mX).add m)=B p:=aZ.cells rfl;have ay:=run_append_grow (P:=u) w b q e j an ax hi N ⟨aW,0,M⟩ n aV P aZ.1 gg i A c aF cN z I I<|growslice_fits I a;have k:=Q aV I;exact⟨_,_,ay,k.1,k.2,λg af=>.inr AR⟩
structure EJ(x ai:dY)(d0:Nat):Prop where
 dn:∀i,ai.dn i=x.dn i
 na:∀i,(ai.dM i).1=(x.dM i).1
 dM:∀i,i≠d0->ai.dM i=x.dM i
 Us:ai.dM d0=x.dM d0\/mc (x.dM d0).2<mc (ai.dM d0).2
 xj:∃t n c,(x.dM d0).2=.slice t n c
def ea.pV{rd l:ez}(d:rd.gU l){d0:Nat}(g:EJ x ai d0){v:dp}{a:V}(h:ea rd x v a):ea l ai v a:=by
 cases a with
 |cY p=>exact h.mono d
 |e1 o=>exact h.mono d
 |box i aq=>simp only[ea,g.dn]at*;exact h
 |dk i=>simp only[ea,g.na]at*;exact h
 |row i n=>simp only[ea,g.na]at*;exact h
 |ip i aq n=>simp only[ea,g.dn]at*;exact h
 |sub i q t n=>simp only[ea,g.na]at*;exact h
 |hn i q j aq=>simp only[ea,g.na]at*;exact h
 |gQ i=>simp only[ea,g.na]at*;exact h
 |hV i j y=>
  by_cases k:i=d0
  .subst k;have⟨s,u,db,aj⟩:=g.xj;have⟨P,p,G,_⟩:=h;rw[aj]at G;cases G
  .simp only[ea,g.dM i k]at*;exact h
 |any=>trivial
 |gf c o=>exact h.elim
 |d_ q tag n ae=>
  refine⟨h.1.mono d,?_⟩;rcases tag with _|_|m
  .trivial
  .exact h.2
  .have b:=h.2;simp only[eA]at b⊢;by_cases ax:m=d0
   .subst ax;rcases g.Us with e|e
    .rw[e];exact b
    .exact⟨I,λC=>I⟩
   .rw[g.dM m ax];exact b
def fA.pV{rd d:ez}(b:rd.gU d){d0:Nat}(g:EJ x ai d0){v:dp}{a:V}(h:fA rd x v a):fA d ai v a:=by
 cases a with
 |gf c A=>have⟨k,G,l,s⟩:=h;exact⟨k,G,l,λm o ad=>let⟨p,u,z⟩:=s m o ad;⟨p,u,z.pV b g⟩⟩
 |cY p=>exact ea.hG<|ea.pV b g (a:=.cY p) h
 |e1 p=>exact ea.hG<|ea.pV b g (a:=.e1 p) h
 |box i aq=>exact ea.hG<|ea.pV b g (a:=.box i aq) h
 |dk i=>exact ea.hG<|ea.pV b g (a:=.dk i) h
 |row i n=>exact ea.hG<|ea.pV b g (a:=.row i n) h
 |ip i aq n=>exact ea.hG<|ea.pV b g (a:=.ip i aq n) h
 |sub i q t n=>exact ea.hG<|ea.pV b g (a:=.sub i q t n) h
 |hn i q j aq=>exact ea.hG<|ea.pV b g (a:=.hn i q j aq) h
 |gQ i=>exact ea.hG<|ea.pV b g (a:=.gQ i) h
 |hV i j y=>exact ea.hG<|ea.pV b g (a:=.hV i j y) h
 |any=>trivial
 |d_ q tag n ae=>exact ea.hG<|ea.pV b g (a:=.d_ q tag n ae) h
def gW.jC(h:gW K x n t w q){i:Nat}{eM r:eD}(cN:cO q.Y i=B eM)(k:EJ x ai i)(af:fL w (er x i eM) aE)(D:∀l y,er ai i r l y->er x i eM l y\/w.heap.size<=l)(s:∀S,r≠.box S)(ah:eM.kr=Z)
  (aU:(fd K x q.Y w).gU (fd K ai (hB i r q.Y) aE)->iv (fd K ai (hB i r q.Y) aE) ai aE i r):gW K ai n t aE (q.f3 i r)/\(fd K x q.Y w).gU (fd K ai (hB i r q.Y) aE):=by
 have ax:∀e,(e==i)=Z->e≠i:=λe h=>qe
 have N:∀e,(e==i)=T->e=i:=λe h=>qe
 have A:∀e a,(e==i)=Z->cO q.Y e=B a->ai.dn e=x.dn e/\ai.dM e=x.dM e:=λe a G _=>⟨k.dn e,k.dM e<|ax e G⟩
 have ag:∀e,e≠i->cO (hB i r q.Y) e=cO q.Y e:=λe ad=>by rw[kZ,dA (l5 ad)]
 have m:cO (hB i r q.Y) i=B r:=ahe;have P:fL w (λl y=>∃e a,(e==i)=T/\cO q.Y e=B a/\er x e a l y) aE:=af.kN λl y a=>⟨i,eM,dh,cN,a⟩
 have C:∀e a l y,(e==i)=T->cO (hB i r q.Y) e=B a->er ai e a l y->(∃j Q,(j==i)=T/\cO q.Y j=B Q/\er x j Q l y)\/w.heap.size<=l:=by
  intro e a l y G b aa;have:=N e G;subst this;rw[m]at b;cases b;rcases D l y aa with d|d
  .exact .inl ⟨e,eM,dh,cN,d⟩
  .exact .inr d
 have aH:=ui (K:=K) (x:=x) (ai:=ai) (w:=w) (aE:=aE) (h:=q.Y) (aF:=hB i r q.Y) h.eV (·==i) A (λe a G b=>⟨a,λo=>o,ahf,a.map_id.symm⟩) P C;have g:=h.eV.step (ai:=ai) (aE:=aE) (aF:=hB i r q.Y) (·==i) (λo=>o) (λ_=>T) A (λe a G b=>⟨a,ahf,a.map_id.symm,a.qW⟩) P C
  (λe j a ak l y G b aR=>absurd ((N e G).trans (N j b).symm) aR) (λp a _ u=>u.pV aH k)
  (λe a G b=>ahg)
  (λe S G _ b=>ahi)
  (λe a G b _ l y ae=>by
    have:=N e G;subst this;rw[m]at b;cases b;rcases D l y ae with d|d
    .exact h.eV.iA e eM cN ah l y d
    .exact .inl<|mY h.eV.gJ.size d)
 exact⟨⟨h.defers,h.size,h.oo,g,λaj v ab=>let⟨p,G,b⟩:=h.tmps aj v ab;⟨p,G,b.t5 (z:=λ_=>T) (λv a _ u=>u.pV aH k) v.qW⟩⟩,aH⟩
def rH(u:dw)(q:cP)(y:dy):X (Nat×Nat×Nat×Nat×Nat×Nat×E (E V)×E (E V)×cQ):=match y.op with
 |.call {callee:=.builtin .append,args:=ae,argTypes:=p}=>match ae.toList,p.toList with
  |[a,o],[d,m]=>match u.underlying d with
   |some (.slice e)=>match u.info? e with
    |some b=>match dZ q a,(dZ q o).bind (mU q b.size)with
     |some (.c (.d_ sz (i+2) Q t)),B (l,c)=>match cO q.Y i with
      |some (.fw j k g)=>if d=m/\b.zero.map (·.cells.size)=B b.size/\0<b.size/\j=e/\sz=b.size/\k=b.size then B (i,e,b.size,b.bytes,Q,g,t,l,c)else M
      |_=>M
     |_,_=>M
    |none=>M
   |_=>M
  |_,_=>M
 |_=>M
theorem XE{ag:Type}{u:dw}{K:fb}{n:Nat}{ops:Array dy}{y:dy}{q:cP}{i e sz a8 Q:Nat}(f:ag->E V)(aq:∀a,(f a).all V.one=T){j aX aI:E ag}{c:cQ}(aB:ej a8 j (c.cL aX)=B aI)(h:rH u q y=B (i,e,sz,a8,Q,Q,j.map f,aX.map f,c))(bB:hF ops y q=B T)(bg:jB n y=T):
  km u K n ops y q ((q.f3 i<|.fw e sz<|F aI).put y.dst<|.c<|.d_ sz (i+2) (F aI)<|aI.map f):=by
 unfold rH at h;split at h;rotate_left;cases h;rename_i ae bo cK;split at h;rotate_left;cases h;rename_i a o a1 b2 bW bN;have bX:ae= #[a,o]:=by rw[<-lF (xs:=ae),bW]
 have bO:bo= #[a1,b2]:=by rw[<-lF (xs:=bo),bN]
 subst bX;subst bO;split at h;rotate_left;cases h;rename_i aG aA;split at h;rotate_left;cases h;rename_i b hi;split at h;rotate_left;cases h;rename_i cl cd b4 b6 b8 ca d ad;split at h;rotate_left;cases h;rename_i aD cm b5 cN;split at h;rotate_left;cases h;rename_i ap;obtain⟨rfl,N,aV,rfl,rfl,rfl⟩:=ap;cases h;have⟨an,N,b0⟩:=gG.1 N;simp only[ej]at aB;split at aB;rotate_left;cases aB;rename_i bw;cases aB;refine nj bB λx t w r b3 ah aM=>?_
 have aH:=r.kM.o y;have⟨cp,bY,bZ⟩:=jc.1 ad;have bT:=aH.op a _ ml d;have bm:=r3 bZ aH<|aH.op o _ ml bY;rw[cQ.map]at bm;have⟨D,bM⟩:=bT;have aW:=MH D;rw[fT]at aW;subst aW;have⟨P,aZ⟩:=r.eV.gg i _ cN;have⟨bb,a4,a0,bc,a9,a5,a7⟩:=xq aZ;have bP:t.eval a=(x.dM i).2:=bM.2 a5.symm;unfold ln;simp only[execOp,cK,resolve,invoke,builtin,g3,hM,gn,p5,hx,jY];rw[bP]at D⊢;generalize cj:t.eval o=cn at*;obtain⟨a6,a_,aF,rfl,bk,bl,bU,_⟩:=bm;rw[fT]at bk⊢;generalize cg:c.cL aX=s at*;by_cases aS:s=[]
 .subst aS;rw[nb]at aM;simp only[kv];rw[a0,NG a1 y.type e b aA hi bb a6 (F j) a4 a_ bc,<-a0];simp only[gn,ly];refine aM _ _ ⟨x,gW.put ?_ y.dst (nG bg) ⟨?_,?_⟩⟩
  .exact(r.fo (r:=.fw e b.size<|F j) cN (λ_ _ a=>a) (fL.refl _ _) (λ_ C=>lL) (λC=>C) λ_=>⟨P,aZ⟩).1
  .have:=(r.fo (r:=.fw e b.size<|F j) cN (λ_ _ a=>a) (fL.refl _ _) (λ_ C=>lL) (λC=>C) λ_=>⟨P,aZ⟩).2;exact D.mono this
  .exact⟨I,λ_=>rfl⟩
 have bI:0<F s:=Ck.2 aS;obtain⟨av,rfl,bz⟩:∃av,a6=B av/\∀m v,aF[m]?=B v->w.cell? (av.add m)=B v:=by
  rcases bU with dI|dI
  .exact absurd cU aS
  .exact dI
 have bq:=u_.one aV cU bl λa d=>Xn
 have⟨aY,aE,aC,au,aL,aT⟩:=arC (u:=u) a1 y.type e b an b.size b.bytes aA hi N rfl rfl b0 aV _ _ P aZ av (F s) a_ aF bk bz bq bI wI bw.1;rw[aC];simp only[gn,ly];have⟨b7,cb,bt,bu,bv,bR,bx⟩:=xq au
 let ai:dY:={dn:=x.dn,dM:=λe=>if e=i then((x.dM i).1,aY)else x.dM e};have al:ai.dM i=((x.dM i).1,aY):=E4;have am:EJ x ai i:=⟨λ_=>rfl,λe=>by by_cases C:e=i<;>simp[ai,C],λe C=>E5,.inr cU,(let⟨t,c,h,_⟩:=xq aZ;cU)⟩;have aP:F (j++s)=F j+F s:=g9;have⟨b1,bj⟩:=r.jC (ai:=ai) (aE:=aE) (r:=.fw e b.size<|F<|j++s) cN am aL (λl ck aO=>by
   simp only[er,al]at aO;rcases aT l aO.1 with k|k
   .refine .inl ⟨k,mY (j1 _ ?_) aO.2⟩;omega
   .exact .inr k) (λ_ C=>lL) rfl (λ_=>⟨P++aF,by rw[al,aP];exact au⟩)
 refine aM _ _ ⟨ai,b1.put y.dst (nG bg) ⟨?_,?_⟩⟩
 ·
  have bK:hK (fd K x q.Y w) b.size P (j.map f):=by
   rcases a7 with dI|⟨z,aN,az⟩
   .have:j=[]:=mw dI;subst this;exact⟨dh,dh⟩
   .obtain⟨_,_,a2,aj|⟨bp,b_,ax,bH,_⟩⟩:=aeN aH.oy D
    .have⟨ax,_,_,ci,bE,bn⟩:=aj;rw[fT]at bE bn ax;rcases bn with dI|⟨bp,bC,bA⟩
     .have:j=[]:=mw dI;subst this;exact⟨dh,dh⟩
     .rw[a0,aN]at ax;cases ax;cases bC;have:P=a2:=by
       apply tp;intro m;rcases la m (F j*b.size)with aw|aw
       .have aQ:m<F P:=by rw[aZ.1];exact aw
        have aR:m<F a2:=I;have aC:=aZ.cells az m (P[m]'aQ)<|e6 aQ;have au:=bA m (a2[m]'aR)<|e6 aR;rw[aC]at au;rwa[e6 aQ,e6 aR]
       .rw[pv (by rw[aZ.1];exact aw),pv I]
      rwa[this]
    .have:j=[]:=by simpa using bH
     subst this;exact⟨dh,dh⟩
  have bJ:hK (fd K x q.Y w) b.size (P++aF) ((j++s).map f):=by rw[hN];exact bK.append bl (by rw[fT];exact aZ.1)
  rcases bx with dI|⟨z,aN,az⟩
  .omega
  rw[bt,aN,<-aP];refine B6 (l:=z) (aF:=P++aF) (bJ.mono bj) dh (by rw[aP];exact bu) bv λg v ab af=>?_
  have bf:=au.cells az g v ab;rw[iS,gx]at bf;rcases aT z az with k|k
  ·
   rcases la g (F j*b.size)with aa|aa
   .rcases a7 with dI|⟨b9,aJ,bd⟩
    .rw[dI]at aa;omega
    .rw[k]at bd;cases bd;rw[a0,aJ]at D;have bQ:P[g]?=B v:=by rwa[tj (by rw[aZ.1];exact aa)]at ab
     refine bj _ _ _ ?_;generalize ar:V.d_ b.size 0 (F j) (j.map f)=ct at D;generalize bS:Value.slice (B ⟨z,0,M⟩) (F j) a4=co at D;cases D with
     |cY v=>cases ar
     |nil ao t c bG=>injection ar with _ _ bs _;rw[bs]at aa;omega
     |e1 l y cc f ay aA=>cases ar
     |xl=>cases ar
     |d_ l y n c ao cq ce cR cf bG aj ay aA=>
      cases ar;cases bS;have bL:0<b.size:=aV;have bh:g/b.size<F (j.map f):=by rw[fT];exact Ob (by rw[re];exact aa)
      have bV:=e6 bh;have bF:=aj _ (fi bh);have bD:g%b.size<F ((j.map f)[g/b.size]):=by rw[bF];exact zC _ bL
      have aK:=ay _ _ _ _ bV<|e6 bD;rw[gx,show g/b.size*b.size+g%b.size=g by have:=Oc g b.size;rw[re]at this;omega]at aK;have br:=G9 x q.Y r.eV.gJ _ _ _ aK;have ba:=aZ.cells k g v bQ;rw[iS,gx,br]at ba;rw[aK];exact ba
   .unfold fd;have aU:¬h7 ai (q.f3 i<|.fw e b.size<|F<|j++s).Y z g:=by
     rintro⟨S,a3,p,ak⟩;simp only[cP.f3,kZ]at p;split at p
     next A=>cases p;simp only[er,<-A,al]at ak;omega
     next A=>rw[qZ ⟨am.dn S,am.dM S (l5 A)⟩]at ak;exact r.eV.lR S i a3 _ z g (l5 A) p cN ak ⟨k,aa⟩
    rw[dA aU,dA]
    .exact bf
    .exact λC=>(r.eV.iA i _ cN rfl z g ⟨k,aa⟩).elim (λau=>OI.2 au C.1) C.2
  .unfold fd;have aU:¬h7 ai (q.f3 i<|.fw e b.size<|F<|j++s).Y z g:=by
    rintro⟨S,a3,p,ak⟩;simp only[cP.f3,kZ]at p;split at p
    next A=>cases p;simp only[er,<-A,al]at ak;omega
    next A=>rw[qZ ⟨am.dn S,am.dM S (l5 A)⟩]at ak;have:=(r.eV.gg S a3 p).lt ak;omega
   rwa[dA aU,dA ahj]
 .show _<=mc (ai.dM i).2/\(_=mc (ai.dM i).2->aY=(ai.dM i).2);rw[al];exact⟨by rw[bR,aP];exact jq _,λ_=>rfl⟩
def oZ(u:dw)(y:dy)(q:cP)(e sz:Nat)(ae:E (E V)):Prop:=∀x rd t w,lJ x rd t w q y->∃o aE P,(execOp t.eval y).run u w=.ok (.value o) aE/\Ext w aE/\aE.ownsRow 0 e sz o (F ae) P/\(∀l,o.ownBlock=B l->w.heap.size<=l)/\hK rd sz P ae
def hs.dk{q ao:cP}(h:hs q ao){e sz:Nat}{ae:E (E V)}(Y:oZ u y q e sz ae):oZ u y ao e sz ae:=λx rd t w ab=>Y x rd t w ⟨λa v d ap=>ab.op a v d<|h.dZ ap,ab.oy,λi r b=>ab.gg i r<|h.h i r b⟩
def WX(u:dw)(y:dy)(q:cP)(e sz:Nat)(ae:E (E V)):Prop:=∀x rd t w,lJ x rd t w q y->∃o aE P,(execOp t.eval y).run u w=.ok (.value o) aE/\Ext w aE/\aE.s5 e sz o (F ae) P/\(∀l,o.ownBlock=B l->w.heap.size<=l)/\hK rd sz P ae
def oZ.m{e sz:Nat}{ae:E (E V)}(Y:oZ u y q e sz ae):WX u y q e sz ae:=λx rd t w ab=>let⟨o,aE,P,G,a,b,d,g⟩:=Y x rd t w ab;⟨o,aE,P,G,a,b.m,d,g⟩
theorem ahN{e sz:Nat}{ae:E (E V)}(i:Nat)(Y:WX u y q e sz ae)(an:hF ops y q=B T)(ak:y.dst=B i)(au:i<n)(aj:i<1000000)(al:nh q i (B i)):
  km u K n ops y q ((q.f3 i<|.fw e sz<|F ae).put (B i)<|.c<|.d_ sz (i+2) (F ae) ae):=by
 refine nj an λx t w r ar ah ad=>?_
 have⟨o,aE,P,G,S,k,s,aa⟩:=Y _ _ _ _ (r.kM.o y);unfold ln;rw[G];simp only[ly];have⟨bb,a4,a0,bc,a9,a5,a7⟩:=xq k;have dI:=r.y3 i;have z:(x.iP i (undef,o) (0,0)).dM i=(undef,o):=rA;have⟨ao,N⟩:=dI.add (ai:=x.iP i (undef,o) (0,0)) (aE:=aE) (r:=.fw e sz<|F ae) aj al.drop (λe am=>yA) S (λl y j=>by simp only[er,z]at j;exact s l j.1) (λN=>⟨P,Xo⟩)
 have ap:=ao.put (B i) cU (p:=o) (v:=.c<|.d_ sz (i+2) (F ae) ae) (by
  refine⟨?_,?_⟩
  .rcases a7 with dI|⟨b,ai,A⟩
   .have d:ae=[]:=mw dI;subst d;rw[a0];exact .nil sz _ _ a9
   .have ag:o=.slice (B ⟨b,0,M⟩) (F ae) a4:=by rw[a0,ai]
    conv=>arg 2;rw[ag]
    refine B6 (l:=b) (aF:=P) (aa.mono N) rfl bc a9 λg v ab af=>?_
    have C:=k.cells A g v ab;rw[iS,gx]at C;have j:=s b A;unfold fd;rw[dA,dA ahj]
    .exact C
    .rintro⟨Q,aq,a,m⟩;simp only[cP.f3,kZ]at a;split at a
     next D=>cases a;simp only[er]at m;omega
     next D=>rw[qZ (x:=x) (by simp[dY.iP,l5 D])]at m;have:=(r.eV.gg Q aq a).lt m;omega
  .show _<=mc ((x.iP i (undef,o) (0,0)).dM i).2/\(_=mc ((x.iP i (undef,o) (0,0)).dM i).2->o=((x.iP i (undef,o) (0,0)).dM i).2);rw[z,a5];exact⟨jq _,λ_=>rfl⟩)
 rw[ak];exact ad _ _ ⟨_,ap.jU (λg=>(vU (q.f3 i<|.fw e sz<|F ae) i _ g).symm) rfl⟩
def XN{e sz:Nat}{ae:E (E V)}(i:Nat)(Y:oZ u y q e sz ae)(j:hF ops y q=B T)(d:y.dst=B i)(a:i<n)(b:i<1000000)(g:nh q i (B i)):
 km u K n ops y q ((q.f3 i<|.fw e sz<|F ae).put (B i)<|.c<|.d_ sz (i+2) (F ae) ae):=ahN i Y.m j d a b g
theorem XM{e sz:Nat}{ae:E (E V)}(i:Nat)(Y:oZ u y q e sz ae)(N:hF ops y q=B T)(C:y.dst=B i)(ab:i<n)(A:i<1000000)(D:nh q i (B i)):
  km u K n ops y q ((q.f3 i<|.row e sz (F ae) ae).put (B i)<|.c<|.dk i):=by
 refine nj N λx t w r aa ah s=>?_
 have⟨o,aE,P,G,d,k,j,m⟩:=Y _ _ _ _ (r.kM.o y);unfold ln;rw[G];simp only[ly];have⟨bb,a4,a0,bc,a9,a5,a7⟩:=kK k;have dI:=r.y3 i;have z:(x.iP i (o,undef) (0,0)).dM i=(o,undef):=rA;have⟨Q,b⟩:=dI.add (ai:=x.iP i (o,undef) (0,0)) (aE:=aE) (r:=.row e sz (F ae) ae) A D.drop (λe am=>yA) d (λl y a=>by simp only[er,z]at a;exact j l a) (λb=>⟨P,Xo,rfl,m.mono b⟩)
 have S:=Q.put (B i) cU (p:=o) (v:=.c<|.dk i) (by simp only[fM,fA,ea];rw[z];exact cU)
 rw[C];exact s _ _ ⟨_,S.jU (λg=>(vU (q.f3 i<|.row e sz (F ae) ae) i _ g).symm) rfl⟩
def gW.TT(h:gW K x n t w q){b:Nat}{j v:cT}(cN:cO q.tmps b=B j)(ab:∀p,fM (fd K x q.Y w) x p j->fM (fd K x q.Y w) x p v):gW K x n t w (q.put (B b) v):=by
 refine⟨h.defers,h.size,h.oo,h.eV,λg a d=>?_⟩;rw[ov]at d;split at d
 next af=>subst af;cases d;have⟨p,G,i⟩:=h.tmps _ _ cN;exact⟨p,G,ab p i⟩
 .exact h.tmps g a d
theorem gW.G_(h:gW K x n t w q){l:Nat}{d b:E V}(cN:cO q.Y l=B (.box d))(aP:F b=F d)(ab:∀(m:Nat) (a o:V),d[m]?=B a->b[m]?=B o->∀p,fA (fd K x q.Y w) x p a->fA (fd K x q.Y w) x p o):gW K x n t w (q.f3 l (.box b)):=by
 refine(h.fo (r:=.box b) cN (λs u g=>?_) (fL.refl _ _) cU (λC=>lL) λk m o ad=>?_).1
 .simp only[er,aP]at g⊢;exact g
 .have aw:=(ie.1 ad).1;have⟨p,G,i,j⟩:=h.eV.gg l _ cN m _ (e6 I);exact⟨p,G,i,(ab m _ o (e6 I) ad p j).mono k⟩
def gW.abL(h:gW K x n t w q)(i e sz:Nat)(b:i<1000000)(d:nh q i M):gW K (x.iP i (undef,.slice M 0 0) (0,0)) n t w (q.f3 i (.fw e sz 0)):=
 (h.add (ai:=x.iP i (undef,.slice M 0 0) (0,0)) (aE:=w) (r:=.fw e sz 0) b d (λe am=>yA) (Ext.refl w) (λl y a=>by simp[er,dY.iP,n6]at a) (λg=>⟨[],by simpa[dY.iP]using(U2 w 0 e sz).m⟩)).1
def BJ(q:cP)(a i e sz:Nat):X cP:=match cO q.tmps a with
 |some (.c (.cY (.slice M 0 0)))=>if decide (i<1000000)&&q.sX i M then B ((q.f3 i<|.fw e sz 0).put (B a)<|.c<|.d_ sz (i+2) 0 [])else M
 |_=>M
def R.BJ{ao:cP}(h:R K n t w q){a i e sz:Nat}(aj:BJ q a i e sz=B ao):R K n t w ao:=by
 have⟨x,h⟩:=h;unfold Go.Proofs.YtddmdeaegbfhaaaGreat.BJ at aj;split at aj
 .rename_i cN;split at aj
  next ap=>simp only[fz,i6]at ap;cases aj;have G:=h.abL i e sz ap.1<|vP ap.2;refine⟨_,G.TT (b:=a) cN λp aA=>?_⟩;rw[hw aA];refine⟨.nil sz M 0 E3,?_⟩;simp[eA,dY.iP,mc]
  .cases aj
 .cases aj
def GC(q:cP)(l m i e sz:Nat):X cP:=match q.lj l with
 |some a=>match a[m]? with
  |some (.cY (.slice M 0 0))=>if decide (i<1000000)&&q.sX i M&&l !=i then B ((q.f3 i<|.fw e sz 0).f3 l<|.box<|a.set m<|.d_ sz (i+2) 0 [])else M
  |_=>M
 |none=>M
def R.GC{ao:cP}(h:R K n t w q){l m i e sz:Nat}(aj:GC q l m i e sz=B ao):R K n t w ao:=by
 have⟨x,h⟩:=h;unfold Go.Proofs.YtddmdeaegbfhaaaGreat.GC at aj;split at aj
 .rename_i b cN;split at aj
  .rename_i aw;split at aj
   .rename_i ap;simp only[fz,i6,bne_iff_ne]at ap;cases aj;have G:=h.abL i e sz ap.1.1<|vP ap.1.2;refine⟨_,G.G_ (l:=l) (d:=b) Xp dh λj a o d ad p aA=>?_⟩;rw[sa]at ad;split at ad
    .rename_i g;subst g;split at ad
     .cases ad;rw[aw]at d;cases d;have:p=.slice M 0 0:=hw (x:=x.iP i (undef,.slice M 0 0) (0,0)) aA;subst this;refine⟨.nil sz M 0 E3,?_⟩;simp[eA,dY.iP,mc]
     .cases ad
    .rw[d]at ad;cases ad;exact aA
   .cases aj
  .cases aj
 .cases aj
def kc(g i:Nat):Nat:=if i<1000000 then i+g else i
def pc(g i:Nat):Bool:=decide (i+g<1000000)||decide (1000000<=i)
def cP.Bh(q:cP)(g:Nat):X cP:=
 if q.tmps.all (λz=>z.2.eY<|V.fn<|pc g)&&q.Y.all (λz=>pc g z.1&&z.2.eY (V.fn<|pc g))then
  B ⟨q.tmps.map λz=>(z.1,z.2.map<|V.fD<|kc g),q.Y.map λz=>(kc g z.1,z.2.map<|V.fD<|kc g)⟩
 else M
def aj7{g i e:Nat}(a:pc g i=T)(b:pc g e=T)(h:kc g i=kc g e):i=e:=by simp only[pc,lc,i6]at a b;unfold kc at h;split at h<;>split at h<;>omega
theorem abl(g:Nat):∀(s:fK),(∀z∈s,pc g z.1=T)->∀i a,cO (s.map λz=>(kc g z.1,z.2.map (V.fD (kc g)))) i=B a->∃d0 b,cO s d0=B b/\i=kc g d0/\a=b.map (V.fD (kc g))/\pc g d0=T
 |[],_,i,a,h=>QN
 |(e,o)::s,cN,i,a,h=>by
  simp only[hx,io]at h;split at h
  next d=>cases h;exact⟨e,o,ahl,d.symm,rfl,cN (e,o) dh⟩
  .rename_i d;have⟨d0,b,G,j,k,l⟩:=abl g s ef i a h;refine⟨d0,b,?_,j,k,l⟩;rw[io,dA]
   .exact G
   .intro m;subst m;exact d j.symm
theorem R.Bh{ao:cP}{g:Nat}(h:R K n t w q)(aj:q.Bh g=B ao):R K n t w ao:=by
 have⟨x,h⟩:=h;unfold cP.Bh at aj;split at aj;rotate_left;cases aj;rename_i ap;cases aj;simp only[fz,fp]at ap;have⟨aw,aa⟩:=ap
 let P:Nat->Nat:=λe=>if e<1000000 then e-g else e
 have ax:∀i,pc g i=T->P (kc g i)=i:=by
  intro i b;simp only[pc,lc,i6]at b;simp only[P,kc];by_cases G:i<1000000
  .rw[dE G,dE I];omega
  .rw[dA G,dA G]
 let ai:dY:={dn:=λe=>x.dn<|P e,dM:=λe=>x.dM<|P e};have D:∀i,pc g i=T->ai.dn (kc g i)=x.dn i/\ai.dM (kc g i)=x.dM i:=λi b=>by simp only[ai,ax i b,and_self]
 have u:=abl g q.Y ef;have A:∀i r,pc g i=T->er ai (kc g i) (eD.map (V.fD<|kc g) r)=er x i r:=by intro i r b;rw[pg];funext l y;cases r<;>simp only[er,(D i b).1,(D i b).2]
 have aG:∀l y,h7 ai (q.Y.map λz=>(kc g z.1,z.2.map<|V.fD<|kc g)) l y->h7 x q.Y l y:=by rintro l y ⟨i,r,G,m⟩;obtain⟨d0,k,aC,rfl,rfl,aT⟩:=u i r G;rw[A d0 k aT]at m;exact⟨d0,k,aC,m⟩
 have aH:∀l y,h7 x q.Y l y->h7 ai (q.Y.map λz=>(kc g z.1,z.2.map<|V.fD<|kc g)) l y:=by
  rintro l y ⟨i,r,G,m⟩;have Q:=(aa _ (iM G)).1;refine⟨kc g i,r.map<|V.fD<|kc g,?_,by rw[A i r Q];exact m⟩;have gen:∀(s:fK),(∀z∈s,pc g z.1=T)->cO s i=B r->cO (s.map λz=>(kc g z.1,z.2.map<|V.fD<|kc g)) (kc g i)=B (r.map<|V.fD<|kc g):=by
   intro s cN b;induction s with
   |nil=>simp[cO]at b
   |cons z s ay=>
    have⟨e,o⟩:=z;simp only[hx,io]at b⊢;split at b
    next S=>subst S;cases b;rw[dE rfl]
    next S=>rw[dA (λC=>S<|aj7 (cN (e,o) dh) Q C)];exact ay (λz Y=>cN z (by simp[Y])) b
  exact gen q.Y (λz Y=>(aa z Y).1) G
 have am:fd K ai (q.Y.map λz=>(kc g z.1,z.2.map<|V.fD<|kc g)) w=fd K x q.Y w:=by
  funext l y;unfold fd;by_cases d:h7 x q.Y l y
  .rw[dE d,dE cU]
  .rw[dA d,dA ef]
 refine⟨ai,h.defers,h.size,h.oo,⟨h.eV.gJ,λi r b=>?_,λl y d=>h.eV.may l y cU,λi au r aD l y aR G m af ag=>?_,λi aF N b=>?_,λi r b Q l y al=>?_⟩,λaE v ab=>?_⟩
 .obtain⟨d0,k,aC,rfl,rfl,aT⟩:=u i r b;simp only[am];exact(h.eV.gg d0 k aC).fD (ez.gU.refl _) (kc g) (pc g) D aT (aa _ (iM aC)).2
 .obtain⟨d0,k,aC,rfl,rfl,aT⟩:=u i r G;obtain⟨av,aq,ad,rfl,rfl,aB⟩:=u au aD m;rw[A d0 k aT]at af;rw[A av aq aB]at ag;exact h.eV.lR d0 av k aq l y (λC=>aR (by rw[C])) aC ad af ag
 .obtain⟨d0,k,aC,rfl,aL,aT⟩:=u i _ b;have ah:kc g d0=d0:=by
   unfold kc at N⊢;simp only[pc,lc,i6]at aT;by_cases G:d0<1000000
   .rw[dE G]at N;omega
   .rw[dA G]
  rw[(D d0 aT).1,ah];cases k with
  |box ar=>exact h.eV.rL d0 ar (by rw[ah]at N;exact N) aC
  |row e q n ae=>cases aL
  |fw e q n=>cases aL
  |dR L=>cases aL
  |g7 ak=>cases aL
 .obtain⟨d0,k,aC,rfl,rfl,aT⟩:=u i r b;rw[A d0 k aT]at al;exact h.eV.iA d0 k aC (by cases k<;>simp_all[eD.kr,eD.map]) l y al
 .simp only[sT (λv=>cT.map (V.fD<|kc g) v)]at ab;obtain⟨j,an,rfl⟩:=gG.1 ab;have⟨p,ad,aA⟩:=h.tmps aE j an;simp only[am];exact⟨p,ad,aA.imp (λv a d az=>az.fD (ez.gU.refl _) (kc g) (pc g) D d)<|aw _ (iM an)⟩
def dT.ra(N:dT)(q:X cP):dT:=match q with
 |some q=>N.tf q
 |none=>.iZ
theorem ve{q:X cP}(hS:∀t w ao,q=B ao->R K n t w N.d1->R K n t w ao)(a:N.pre=T)(g:TS u K n (N.ra q) ah):TS u K n N ah:=by
 cases q with
 |none=>exact g.elim
 |some ao=>exact vg ao cU a g
def aiv(b i e sz:Nat)(a:N.pre=T)(g:TS u K n (N.ra (BJ N.d1 b i e sz)) ah):TS u K n N ah:=ve (λ_ _ _ aj r=>r.BJ aj) a g
def ka(l m i e sz:Nat)(a:N.pre=T)(g:TS u K n (N.ra (GC N.d1 l m i e sz)) ah):TS u K n N ah:=ve (λ_ _ _ aj r=>r.GC aj) a g
def aif(l:Nat)(a:N.pre=T)(g:TS u K n (N.ra (N.d1.Bh l)) ah):TS u K n N ah:=ve (λ_ _ _ aj r=>r.Bh aj) a g
def Q0{i e sz d Q:Nat}(f:ag->E V)(p:∀a,(f a).all V.one=T){j k b:E ag}{c:cQ}(o:ej d j (c.cL k)=B b)(h:N.fQ (rH u)=B (i,e,sz,d,Q,Q,j.map f,k.map f,c))(ar:N.ft n=T)
  (g:TS u K n (N.next<|(N.d1.f3 i<|.fw e sz<|F b).put N.dst<|.c<|.d_ sz (i+2) (F b)<|b.map f) ah):TS u K n N ah:=by
 have⟨q,y,cK,G,l,m⟩:=ph ar;rw[m]at g;exact o8 cK (XE f p o (jb h cK) G l) g
def dT.k2(n i:Nat)(N:dT):Bool:=N.ft n&&(match N.dst with|some a=>a==i|none=>Z)&&decide (i<1000000)&&N.d1.sX i (B i)
def GK{i:Nat}(h:N.k2 n i=T):∃b y,N.op=B (b,y)/\hF b y N.d1=B T/\y.dst=B i/\i<n/\i<1000000/\nh N.d1 i (B i):=by
 simp only[dT.k2,fz,i6]at h;have⟨⟨⟨G,a⟩,g⟩,j⟩:=h;have⟨b,y,cK,k,l,m⟩:=ph G;rw[m]at a;have d:y.dst=B i:=by
  cases ap:y.dst with
  |none=>rw[ap]at a;cases a
  |some o=>rw[ap]at a;simp at a;rw[a]
 exact⟨b,y,cK,k,d,nG l i d,g,vP j⟩
theorem LA{e sz:Nat}{ae:E (E V)}(i:Nat)(Y:∀a y,N.op=B (a,y)->oZ u y N.d1 e sz ae)(ar:N.k2 n i=T)(g:TS u K n (N.next ((N.d1.f3 i (.fw e sz (F ae))).put (B i) (.c (.d_ sz (i+2) (F ae) ae)))) ah):TS u K n N ah:=by have⟨a,y,cK,G,b,d,j,k⟩:=GK ar;exact o8 cK (XN i cU G b d j k) g
theorem Q7{e sz:Nat}{ae:E (E V)}(i:Nat)(Y:∀a y,N.op=B (a,y)->oZ u y N.d1 e sz ae)(ar:N.k2 n i=T)(g:TS u K n (N.next ((N.d1.f3 i (.row e sz (F ae) ae)).put (B i) (.c (.dk i)))) ah):TS u K n N ah:=by have⟨a,y,cK,G,b,d,j,k⟩:=GK ar;exact o8 cK (XM i cU G b d j k) g
def LW(u:dw)(q:cP)(y:dy):X (Nat×Nat×Nat×E (E V)×cQ):=match y.op with
 |.call {callee:=.builtin .append,args:=ae,argTypes:=i}=>match ae.toList,i.toList with
  |[a,o],[d,g]=>match u.underlying d with
   |some (.slice e)=>match u.info? e with
    |some b=>match dZ q a,(dZ q o).bind (mU q b.size)with
     |some (.c (.cY (.slice M 0 0))),B (l,c)=>if d=g/\b.zero.map (·.cells.size)=B b.size/\0<b.size then B (e,b.size,b.bytes,l,c)else M
     |_,_=>M
    |none=>M
   |_=>M
  |_,_=>M
 |_=>M
theorem adB{e sz D:Nat}(f:ag->E V)(az:∀a,(f a).all V.one=T){z Q:E ag}{c:cQ}(j:ej D ([]:E ag) (c.cL z)=B Q)(h:LW u q y=B (e,sz,D,z.map f,c)):oZ u y q e sz (Q.map f):=by
 unfold LW at h;split at h;rotate_left
 .cases h
 rename_i ae aa cK;split at h;rotate_left
 .cases h
 rename_i a o A ax aq ak;have ar:ae= #[a,o]:=by rw[<-lF (xs:=ae),aq]
 have al:aa= #[A,ax]:=by rw[<-lF (xs:=aa),ak]
 subst ar;subst al;split at h;rotate_left
 .cases h
 rename_i aG aA;split at h;rotate_left
 .cases h
 rename_i s hi;split at h;rotate_left
 .cases h
 rename_i aC aD d ad;split at h;rotate_left
 .cases h
 rename_i ap;obtain⟨rfl,N,aH⟩:=ap;cases h;obtain⟨an,N,aw⟩:=gG.1 N;simp only[ej]at j;split at j;rotate_left
 .cases j
 rename_i ab;cases j;intro x rd t w p;obtain⟨aK,au,av⟩:=jc.1 ad;have am:=hw<|p.op a _ ml d;have P:=r3 av p<|p.op o _ ml au;rw[cQ.map]at P;simp only[execOp,cK,resolve,invoke,builtin,g3,hM,gn,p5,hx,jY];rw[am];generalize aI:t.eval o=aJ at*;obtain⟨C,K,aF,rfl,g,aj,ao,_⟩:=P;rw[fT]at g⊢;generalize aE:c.cL z=b at*;simp only[k8,kv,gx]at ab⊢;by_cases k:b=[]
 .subst k;simp only[kv,jY];rw[NG A y.type e s aA hi M C 0 0 K dd];simp only[gn];exact⟨_,_,[],rfl,Ext.refl w,U2 w 0 e s.size,by simp[n6],dh,dh⟩
 have ai:0<F b:=Ck.2 k;obtain⟨i,rfl,ah⟩:∃i,C=B i/\∀m v,aF[m]?=B v->w.cell? (i.add m)=B v:=by
  rcases ao with dI|dI
  .exact absurd cU k
  .exact dI
 have ay:=run_append_nil (P:=u) w A y.type e s an aA hi N i (F b) K aF g ah ai I I;rw[ay];simp only[gn];have S:=grownCap_ge w (F b) 0 e;have aB:=grownCap_le_maxLen w (F b) 0 e ef;refine⟨_,_,aF,rfl,(Ext.drew w).trans<|Ext.alloc _ _,⟨by rw[g,fT],.inr ⟨w.heap.size,grownCap w (F b) 0 e,_,by rw[fT],ny _,heap_alloc_new w.drew _,by rw[fT];exact S,aB,?_,?_⟩⟩,λl af=>?_,aj⟩
 .simp only[zE,qA,size_zeroCells,aw,g,<-jZ];congr 1;omega
 .rw[fT,ul,List.toList_toArray,<-g];exact rg
 .simp only[n6,h0]at af;omega
def vI(u:dw)(d:E Nat)(q:cP)(y:dy):X (Nat×Nat×E (E V)):=match y.op with
 |.buildSlice g b jF=>match u.underlying g with
  |some (.slice e)=>match u.info? e with
   |some a=>if b=0 then(if jF.size=0 then B (e,a.size,[])else M)else if decide (0<b*a.size/\b*a.size<=16777216)&&a.zero.isSome then match ZI u q e b d jF.toList with
     |some ae=>B (e,a.size,ae)
     |none=>M
    else M
   |none=>M
  |_=>M
 |_=>M
def Nt{e sz:Nat}{ae:E (E V)}{ab:E Nat}(h:vI u ab q y=B (e,sz,ae)):oZ u y q e sz ae:=by
 unfold vI at h;split at h;rotate_left;cases h;rename_i al A jF cK;split at h;rotate_left;cases h;rename_i aG aA;split at h;rotate_left;cases h;rename_i b S;split at h
 .rename_i aC;subst aC;split at h;rotate_left;cases h;rename_i aE;cases h;have Y:jF= #[]:=zA aE;subst Y;intro x rd t w ak;have a3:(U3 al 0 #[]).run u w=.ok (.slice (B ⟨w.heap.size,0,M⟩) 0 0) (w.alloc<|.cells #[] e):=by simp[U3,run_underlying aA,sizeOf,typeInfo,S,uz,newRow,newObj,g3,mZ,program];rw[show UT 0= #[]from zA dh,U4]
  simp only[execOp,cK,g3,U4,a3,gn,hM];exact⟨_,_,[],rfl,Ext.alloc _ _,⟨dh,.inr ⟨w.heap.size,0,#[],rfl,ny _,heap_alloc_new w _,jq _,E3,dh,dh⟩⟩,λl i=>by simp only[n6,h0]at i;omega,dh,dh⟩
 split at h;rotate_left;cases h;rename_i ah;simp only[fz,i6]at ah;have⟨af,aQ⟩:=ah;split at h;rotate_left;cases h;rename_i aS i;cases h;intro x rd t w ak;unfold ZI at i;rw[S]at i;split at i;rotate_left;cases i;rename_i aR D aB aF;cases aB;split at i;rotate_left;cases i;rename_i an N;split at i;rotate_left;cases i;rename_i k ax;split at i;rotate_left;cases i;rename_i K ay;cases i;have⟨aL,aM⟩:=TC ak aF λj z Y=>W5
 have⟨r,ai,aj⟩:=Ml _ D _ _ k aL aM (SP rd x _) ax;have a3:=run_buildSlice (P:=u) w al e A _ r b an aA S N I I ai;simp only[execOp,cK,g3,a3,gn,hM];have⟨aq,ar⟩:=Ga k K ay;have s:r.size=A*b.size:=by
  have az:∀(D:E (Nat×dp)) (c P:Array dp),uz (λj=>B (j*b.size,b.size)) c D=B P->P.size=c.size:=by
   intro D;induction D with
   |nil=>intro c P C;cases C;rfl
   |cons z D aI=>
    intro c P C;have⟨m,v⟩:=z;simp only[uz]at C;split at C
    .cases C
    .have:=aI _ _ C;rw[this];have ag:zN (λk (a:dp×Nat)=>match a with|(c,aK)=>k.setIfInBounds (m*b.size+aK) c) c v.cells.zipIdx=(v.cells.toList.zipIdx 0).foldl (λk (z:dp×Nat)=>k.setIfInBounds (m*b.size+z.2) z.1) c:=by rw[<-VP,VQ]
     have aD:zN (λk (a:dp×Nat)=>k.setIfInBounds (m*b.size+a.2) a.1) c v.cells.zipIdx=(v.cells.toList.zipIdx 0).foldl (λk (z:dp×Nat)=>k.setIfInBounds (m*b.size+z.2) z.1) c:=ag;first
      |rw[ag]
      |rw[aD]
     exact(Mm (m*b.size) v.cells.toList 0 c).1
  rw[az _ _ _ ai];simp
 have aO:F K=A*b.size:=by rw[<-aq,<-aj.1,s]
 have aP:F ((sO b.size A K).map<|kp ab)=A:=ahm;refine⟨_,_,r.toList,rfl,Ext.alloc _ _,⟨ahn,.inr ⟨w.heap.size,A,r,sD,ny _,heap_alloc_new w _,Xq,?_,s,?_⟩⟩,λl aJ=>QO,⟨λa d=>?_,λj a m o d ad=>?_⟩⟩
 .unfold maxLen;have:A<=A*b.size:=Nat.le_mul_of_pos_right _ (UQ λdI=>aho);omega
 .rw[aP,<-s,<-pz,List.take_length]
 .obtain⟨Q,aa,rfl⟩:=hT.1 d;have⟨j,hi⟩:=xC aa;rw[Bk];exact(FO b.size A K j Q I hi).1
 .rw[gy]at d;obtain⟨Q,aa,rfl⟩:=gG.1 d;obtain⟨g,am,aH,rfl⟩:=tW ab Q m o ad;have au:=(FO b.size A K j Q I aa).2 m am aH;have⟨aN,av,aw⟩:=ar _ am au;have⟨p,ao,ap⟩:=aj.2 _ aN av;exact⟨p,by simpa using ao,FJ g (Gb ap aw)⟩
def _root_.Nat.SX{j q m:Nat}(h:m<q):(j*q+m)%q=m:=by rw[re,UR,Oa h]
def h4(a:Nat)(s c:Int):X Nat:=if 0<=s/\s<=c/\(a:Int)*c<=281474976710656/\c<=140737488355328 then B s.toNat else M
def vK(u:dw)(q:cP)(y:dy):X (Nat×Nat×Nat×E V×Int×Int):=match y.op with
 |.makeSlice d a o=>match u.underlying d,dZ q a,dZ q o with
  |some (.slice e),B (.c (.cY (.int _ s))),B (.c (.cY (.int _ c)))=>match u.info? e with
   |some b=>match b.zero with
    |some an=>if an.cells.size=b.size/\0<b.size then B (e,b.size,b.bytes,an.cells.toList.map V.cY,s,c)else M
    |none=>M
   |none=>M
  |_,_,_=>M
 |_=>M
def Nu{e sz C:Nat}(f:ag->E V)(k:ag)(ab:E Nat){D:E V}{s c:Int}{A:Nat}(z:h4 C s c=B A)(h:vK u q y=B (e,sz,C,D,s,c))(az:kp ab D=f k):oZ u y q e sz ((fe A k).map f):=by
 unfold vK at h;split at h;rotate_left;cases h;rename_i ay a o cK;split at h;rotate_left;cases h;rename_i aG ax aF av aC aA d ad;split at h;rotate_left;cases h;rename_i b al;split at h;rotate_left;cases h;rename_i an N;split at h;rotate_left;cases h;rename_i ap;cases h;have⟨K,aE⟩:=ap;simp only[h4]at z;split at z;rotate_left;cases z;rename_i ak;cases z;have⟨af,ah,ai,aB⟩:=ak;intro x rd t w S;have ao:=hw<|S.op a _ hD d;have aq:=hw<|S.op o _ hD ad;have a3:=run_make (P:=u) w ay e b an aA al N ax av s c af ah ai I;simp only[execOp,cK,g3,ao,aq,a3,gn,hM];have au:F (f k)=b.size:=Xr;have aP:F ((fe s.toNat k).map f)=s.toNat:=dh;have aj:(madeCells an.cells<|c.toNat*b.size).size=c.toNat*b.size:=size_madeCells _ _;have P:s.toNat<=c.toNat:=I;have aD:s.toNat*b.size<=c.toNat*b.size:=j1 _ P;refine⟨_,_,(madeCells an.cells<|c.toNat*b.size).toList.take<|s.toNat*b.size,rfl,Ext.alloc _ _,⟨ahp,.inr ⟨w.heap.size,c.toNat,_,sD,ny _,heap_alloc_new w _,by rw[aP];exact P,wI,aj,sD⟩⟩,λl aJ=>QO,⟨λa d=>?_,λj a m o d ad=>?_⟩⟩
 .obtain⟨ae,i,rfl⟩:=hT.1 d;rw[(List.mem_replicate.1 i).2];exact au
 .rw[gy]at d;obtain⟨ae,i,rfl⟩:=gG.1 d;have hi:j<s.toNat:=by have:=(ie.1 i).1;simpa using this
  have ar:ae=k:=by rw[List.getElem?_replicate,dE hi]at i;cases i;rfl
  subst ar;have aw:m<b.size:=by have:=(ie.1 ad).1;omega
  rw[<-az]at ad;obtain⟨g,aH,aa,rfl⟩:=tW ab _ m o ad;rw[gy]at aa;obtain⟨p,Q,rfl⟩:=gG.1 aa;refine⟨p,?_,FJ g<|.cY p⟩;have am:j*b.size+m<s.toNat*b.size:=by have:(j+1)*b.size<=s.toNat*b.size:=j1 _ hi;rw[jZ,rh]at this;omega
  rw[jd,dE am];simp only[madeCells,v5,Array.getElem?_map];rw[pu fv];simp only[iq,Array.getElem_range,h0];rw[K,Nat.SX aw];rw[v5]at Q;rw[getElem!_def,Q]
def Ug{ag:Type}(P aF:E ag)(z:Nat)(h:z+F aF<=F P)(C:Nat):(P.take z++aF++P.drop (z+F aF))[C]?=if z<=C/\C<z+F aF then aF[C-z]? else P[C]?:=by
 rw[iu,p7];simp only[hO,jw (by omega:z<=F P)];by_cases G:C<z
 .rw[dE G,jd,dE G,dA I]
 .rw[dA G,p7];by_cases a:C-z<F aF
  .rw[dE a,dE I]
  .rw[dA a,j2,dA I];congr 1;omega
theorem vS{w:d2}{e sz n:Nat}{o:dp}{P:E dp}(aZ:w.ownsRow 0 e sz o n P){l:Nat}(d:o.ownBlock=B l)(z:Nat)(aF:E dp)(Y:z+F aF<=n*sz):
  (w.setCells l z aF).ownsRow 0 e sz o n (P.take z++aF++P.drop (z+F aF))/\fL w (λu _=>o.ownBlock=B u) (w.setCells l z aF):=by
 have af:=fL.setCells l aF z w;refine⟨?_,af.kN cU⟩;have ab:F P=n*sz:=aZ.1;refine⟨by simp only[g9,hO,my];omega,.inr ?_⟩;rcases aZ.2 with⟨rfl,_⟩|⟨aW,aV,ao,rfl,G,b,k,x,y,A⟩
 .cases d
 simp only[n6,h0]at d;subst d;have aX:=(l4.1 b).1;have s:∀g,g<n*sz->w.cell? ⟨aW,g,M⟩=P[g]?:=λg N=>by rw[<-A,jd,dE N];simp only[HT,b];simp
 obtain⟨a,q,D⟩:∃a:Array dp,(w.setCells aW z aF).heap[aW]?=B (.cells a e (0,0))/\a.size=ao.size:=by
  rcases af.block aW aX with j|⟨c,a,j,f,aC,au,aL,aT⟩|⟨_,Q,C,S,ad,aC,_⟩
  .exact⟨ao,by rw[j];exact b,rfl⟩
  .rw[b]at aC;cases aC;exact⟨a,au,aL⟩
  .rw[b]at aC;cases aC
 have aa:n*sz<=aV*sz:=j1 _ k;refine⟨aW,aV,a,rfl,G,q,k,x,by rw[D];exact y,?_⟩;apply tp;intro g;rw[Ug P aF z I,jd];by_cases i:g<n*sz
 .rw[dE i];have K:(w.setCells aW z aF).cell? ⟨aW,g,M⟩=a.toList[g]?:=by simp only[HT,q];simp
  rw[<-K];split
  next t=>have:=UK aW aF z w (λm aw=>by rw[s _ I,e6 I];rfl) (g-z) I;rw[(dd:z+(g-z)=g)]at this;rw[this,e6]
  next t=>rw[e6 I];have p:=s g i;rw[e6 I]at p;exact af.cell p λC=>t ⟨C.2.1,C.2.2⟩
 .rw[dA i,dA I,pv I]
def qh(u:dw)(y:dy)(q:cP)(i:Nat)(eM r:eD)(v:cT):Prop:=
 cO q.Y i=B eM/\(eM.kr=r.kr)/\(∀x l y,er x i r l y->er x i eM l y)/\∀x rd t w,lJ x rd t w q y->
  ∃hX aE,(execOp t.eval y).run u w=.ok hX aE/\fL w (er x i eM) aE/\((hX=.skip/\y.dst=M)\/∃p,hX=.value p/\∀a,rd.gU a->fM a x p v)/\∀a,rd.gU a->iv a x aE i r
variable{i:Nat}{eM r:eD}{v:cT}
def hs.fo{q ao:cP}(h:hs q ao)(Y:qh u y q i eM r v):qh u y ao i eM r v:=⟨h.h _ _ Y.1,Y.2.1,Y.2.2.1,λx rd t w ab=>Y.2.2.2 x rd t w ⟨λa v d ap=>ab.op a v d<|h.dZ ap,ab.oy,λi r b=>ab.gg i r<|h.h i r b⟩⟩
theorem XQ(Y:qh u y q i eM r v)(o:hF ops y q=B T)(m:jB n y=T):km u K n ops y q ((q.f3 i r).put y.dst v):=by
 refine nj o λx t w k D ah b=>?_
 have⟨G,a,Q,l⟩:=Y;have⟨hX,aE,s,z,A,C⟩:=l _ _ _ _ (k.kM.o y);have⟨j,d⟩:=k.fo (r:=r) (aE:=aE) G cU z (λN ap=>by
  subst ap;cases eM with
  |box P=>exact cU
  |row _ _ _ _=>cases a
  |fw _ _ _=>cases a
  |dR _=>cases a
  |g7 _=>cases a) (λap=>by rw[a];exact ap) (λd=>C _ d)
 unfold ln;rw[s];rcases A with⟨rfl,g⟩|⟨p,rfl,g⟩
 .simp only[ly];rw[g]at b⊢;exact b _ _ ⟨_,j⟩
 .simp only[ly];exact b _ _ ⟨_,j.put y.dst (nG m)<|g _ d⟩
def xh(q:cP):cT->X (Nat×Nat×Nat×Nat×E (E V)×cQ×Nat)
 |.c (.dk i)=>match cO q.Y i with
  |some (.row e sz Q ae)=>B (i,e,sz,Q,ae,.c_,0)
  |_=>M
 |.c (.gQ i)=>match cO q.Y i with
  |some (.row e sz Q ae)=>B (i,e,sz,Q,ae,.c_,0)
  |_=>M
 |.c (.row i A)=>match cO q.Y i with
  |some (.row e sz Q ae)=>B (i,e,sz,Q,ae,.part 0 A,0)
  |_=>M
 |.c (.sub i a t A)=>match cO q.Y i with
  |some (.row e sz Q ae)=>if a=sz then B (i,e,sz,Q,ae,.part t A,t)else M
  |_=>M
 |_=>M
structure ahH(x:dY)(rd:ez)(w:d2)(p:dp)(i e sz Q:Nat)(ae:E (E V))(c:cQ)(t:Nat):Prop where
 dk:∃P,w.ownsRow 0 e sz (x.dM i).1 Q P/\F ae=Q/\hK rd sz P ae
 val:∃a aV,p=.slice a (F<|c.cL ae) aV/\F (c.cL ae)<=aV/\aV<=maxLen/\t+F (c.cL ae)<=Q/\(F (c.cL ae)=0\/∃l,(x.dM i).1.ownBlock=B l/\a=B ⟨l,t*sz,M⟩)
 jT:∀j,(c.cL ae)[j]?=if j<F (c.cL ae)then ae[t+j]? else M
theorem T0{v:cT}{i e sz Q t:Nat}{ae:E (E V)}{c:cQ}(h:xh q v=B (i,e,sz,Q,ae,c,t)){x:dY}{rd:ez}{ac:Act}{w:d2}{y:dy}(ab:lJ x rd ac w q y){p:dp}(aA:fM rd x p v):cO q.Y i=B (.row e sz Q ae)/\ahH x rd w p i e sz Q ae c t:=by
 unfold xh at h;split at h
 .split at h
  .rename_i u z K s N cN;cases h;have⟨P,G,b,C⟩:=ab.gg _ _ cN;obtain⟨rfl,_⟩:=aA;have⟨l,c,al,D,k,_,aO⟩:=kK G;refine⟨cN,ef,⟨l,c,Xm,o1,k,o1,?_⟩,λj=>?_⟩
   .rcases aO with aO|⟨g,aO,d⟩
    .left;simp only[cQ.cL];omega
    .exact .inr ⟨g,d,Xs⟩
   .simp only[cQ.cL,gx];split
    .rfl
    .exact pv I
  .cases h
 .split at h
  .rename_i u z K s N cN;cases h;have⟨P,G,b,C⟩:=ab.gg _ _ cN;obtain⟨rfl,_⟩:=aA;have⟨l,c,al,D,k,_,aO⟩:=kK G;refine⟨cN,ef,⟨l,c,Xm,o1,k,o1,?_⟩,λj=>?_⟩
   .rcases aO with aO|⟨g,aO,d⟩
    .left;simp only[cQ.cL];omega
    .exact .inr ⟨g,d,Xs⟩
   .simp only[cQ.cL,gx];split
    .rfl
    .exact pv I
  .cases h
 .rename_i u A;split at h
  .rename_i z K s N cN;cases h;have⟨P,G,b,C⟩:=ab.gg _ _ cN;obtain⟨ad,aa,af,m,rfl,am⟩:=aA;have⟨l,c,al,D,k,_,aO⟩:=kK G;rw[al]at m;cases m;have aP:F (cQ.cL (.part 0 A) ae)=A:=ag9;refine⟨cN,ef,⟨_,_,sD,tL,k,tL,?_⟩,λj=>?_⟩
   .rw[aP];rcases aO with aO|⟨g,aO,d⟩
    .left;omega
    .exact .inr ⟨g,d,Xs⟩
   .rw[aP,gx];simp only[cQ.cL,v4,jd]
  .cases h
 .rename_i u ao ad A;split at h
  .rename_i z K s N cN;split at h
   .rename_i aj;subst aj;cases h;have⟨P,G,b,C⟩:=ab.gg _ _ cN;obtain⟨l,aa,c,a,af,m,ak,rfl,an,ag,o⟩:=aA;have⟨ah,ai,al,D,k,_,aO⟩:=kK G;rw[al]at m;cases m;have aP:F (cQ.cL (.part t A) ae)=A:=ag_;refine⟨cN,ef,⟨_,_,sD,tL,ag,tL,?_⟩,λj=>?_⟩
    .rw[aP];rcases o with o|⟨lf,o,S⟩
     .left;omega
     .right;rcases aO with aO|⟨g,aO,d⟩
      .subst o;refine⟨lf,by rw[al];rfl,S⟩
      .rw[o]at aO;cases aO;exact⟨_,d,S⟩
    .rw[aP];simp only[cQ.cL,jd,j2]
   .cases h
  .cases h
 .cases h
def My(u:dw)(q:cP)(y:dy):X (Nat×Nat×E (E V)×cQ×Nat×Int):=match y.op with
 |.indexAddr g a o=>match(dZ q a).bind<|xh q,dZ q o,u.underlying g with
  |some (i,_,sz,_,ae,c,t),B (.c (.cY (.int _ j))),B (.slice b)=>match u.info? b with
   |some d=>if d.size=sz then B (i,sz,ae,c,t,j)else M
   |none=>M
  |_,_,_=>M
 |_=>M
def aaE{i sz t:Nat}{f:ag->E V}{s:E ag}{c:cQ}{j:Int}{a:ag}(d:di (c.cL s) j=B a)(h:My u q y=B (i,sz,s.map f,c,t,j)):jP u y q (.c (.hn i sz (t+j.toNat) 0)):=by
 unfold My at h;split at h;rotate_left;cases h;rename_i ao Q S cK;split at h;rotate_left;cases h;rename_i ah aG an m aq af aa am aj ai K ad aA;split at h;rotate_left;cases h;rename_i al z;split at h;rotate_left;cases h;rename_i aU;cases h;refine iH.jC λx rd ak w g=>?_
 have⟨v,C,D⟩:=jc.1 K;have⟨cN,ay⟩:=T0 D g<|g.op Q _ hD C;have N:=hw<|g.op S _ hD ad;have⟨dI,hi⟩:=F9 d;have aX:=(ie.1 hi).1;have⟨ap,aV,aC,au,aL,aT,aK⟩:=ay.val;rw[cQ.map,fT]at aC au aT aK;rcases aK with aK|⟨l,aK,a6⟩
 .omega
 have A:j<(F (c.cL s):Int):=I;refine⟨.pointer<|B ⟨l,t*sz+j.toNat*sz,M⟩,?_,?_⟩
 .subst a6;simp[execOp,cK,N,aC,zM,asIntOf,run_underlying aA,dI,A,sizeOf,typeInfo,z,iS,aU]
 .have⟨P,G,_⟩:=ay.dk;have⟨ae,o,p,_,_,_,b⟩:=kK G;rcases b with b|⟨ab,b,k⟩
  .omega
  .rw[aK]at k;cases k;exact⟨l,m,o,by rw[p,b],by rw[jO,jZ]⟩
def MQ(d:dw)(q:cP)(y:dy):X (f1×E (E V)×Nat×Nat):=match y.op with
 |.load b z=>match dZ q z with
  |some (.c (.hn i sz j aq))=>match cO q.Y i with
   |some (.row _ a _ ae)=>if a=sz then B (b,ae,j,aq)else M
   |_=>M
  |_=>M
 |_=>M
def aaG{g:f1}{j aq:Nat}{f:ag->E V}{s:E ag}{a:ag}{v:cT}(d:s[j]?=B a)(h:MQ u q y=B (g,s.map f,j,aq))(ab:nw u g ((f a).drop aq)=B v):jP u y q v:=by
 unfold MQ at h;split at h;rotate_left;cases h;rename_i am z cK;split at h;rotate_left;cases h;rename_i i sz ai al Y;split at h;rotate_left;cases h;rename_i e aa Q ae cN;split at h;rotate_left;cases h;rename_i aj;subst aj;cases h;refine iH.jC λx rd ak w b=>?_
 have⟨l,af,c,G,k⟩:=b.op z _ hD Y;have⟨P,t,ah,A⟩:=b.gg i _ cN;have C:(x.dM i).1.ownBlock=B l:=Lk;have K:(s.map f)[j]?=B (f a):=by rw[gy,d];rfl
 have D:∀m o,((f a).drop aq)[m]?=B o->∃an,w.cell? ⟨l,j*aa+aq+m,M⟩=B an/\fA rd x an o:=by intro m o ad;rw[j2]at ad;have⟨p,aC,au⟩:=A.2 j _ (aq+m) o K ad;have:=t.cells C _ _ aC;rw[iS,gx]at this;exact⟨p,by rw[lH];exact this,au.c⟩
 have⟨p,N,S⟩:=NI (u:=u) ab D;exact⟨p,by simp[execOp,cK,k,VM,qB,N],S⟩
def Hn(u:dw)(q:cP)(y:dy):X (Nat×Nat×Nat×Nat×E (E V)×Nat×Nat×E V):=match y.op with
 |.store k z a=>match dZ q z,dZ q a with
  |some (.c (.hn i sz j aq)),B v=>match cO q.Y i,(cellsOf v).bind y6,u.info? k,y.dst with
   |some (.row e g Q ae),B b,B d,M=>if g=sz/\d.size=F b then B (i,e,sz,Q,ae,j,aq,b)else M
   |_,_,_,_=>M
  |_,_=>M
 |_=>M
def afg{i e sz Q j aq:Nat}{f:ag->E V}{s:E ag}{a K:ag}{b:E V}(d:s[j]?=B a)(h:Hn u q y=B (i,e,sz,Q,s.map f,j,aq,b))(am:lC (f a) aq b=f K)(aP:(decide (aq+F b<=F (f a))&&b.all V.one)=T):
  qh u y q i (.row e sz Q<|s.map f) (.row e sz (F<|s.set j K)<|(s.set j K).map f) (.eu []):=by
 unfold Hn at h;split at h;rotate_left;cases h;rename_i a_ z A cK;split at h;rotate_left;cases h;rename_i aZ a8 ar a6 v Y aM;split at h;rotate_left;cases h;rename_i aD a9 ax bb a0 a4 cN aF kq aG;split at h;rotate_left;cases h;rename_i aj;obtain⟨rfl,aU⟩:=aj;cases h;simp only[fz,i6]at aP;have⟨aP,G⟩:=aP;refine⟨cN,rfl,λ_ _ _ aH=>aH,λx rd ak w ab=>?_⟩;have⟨l,ax,c,aN,aQ⟩:=ab.op z _ hD Y;have⟨P,D,ay,t⟩:=ab.gg i _ cN;have k:(x.dM i).1.ownBlock=B l:=by rw[aN];rfl
 have ae:(s.map f)[j]?=B (f a):=by rw[gy,d];rfl
 have aI:F (f a)=sz:=t.1 _ (lp ae);have aO:j<Q:=by have:=(ie.1 ae).1;omega
 have a1:j*sz+aq+F b<=Q*sz:=by have:(j+1)*sz<=Q*sz:=j1 _ aO;rw[jZ,rh]at this;omega
 have⟨aY,aB,aE⟩:=jc.1 aF;have ah:=B4 (ab.op A _ hD aM) aB;have⟨ar,g⟩:=Ga _ _ aE;have a5:F (ak.eval A).cells.toList=F b:=by rw[pz,ah.1,ar]
 have al:∀(m:Nat) (o:V),b[m]?=B o->∃p,(ak.eval A).cells.toList[m]?=B p/\h2 rd p o:=by intro m o ad;have⟨aX,aC,au⟩:=g m o ad;have⟨p,aL,aT⟩:=ah.2 m aX aC;exact⟨p,Xt,Gb aT au⟩
 have a2:=D.1;have az:∀m,m<F b->∃p,w.cell? ⟨l,j*sz+aq+m,M⟩=B p:=by intro m aw;have:=D.cells k (j*sz+aq+m) _ (e6 I);rw[iS,gx]at this;exact⟨_,this⟩
 have ai:=run_storeCells_cells (P:=u) l (j*sz+aq) (ak.eval A).cells.toList 0 w
  (λm aw=>by have⟨p,C⟩:=az m I;rw[jO,C];rfl)
  (λm aw=>by
    rcases D.2 with⟨C,_⟩|⟨aW,aV,ao,aC,_,au,_⟩
    .rw[C]at k;cases k
    .rw[aC]at k;cases k;simp[sg,au])
  (λp aA=>by obtain⟨m,aw,rfl⟩:=N_ aA;have⟨ba,aC,au⟩:=al m _ (e6 I);rw[e6 aw]at aC;cases aC;exact Nr au<|fp.1 G _ (fi _))
 simp only[jO]at ai;have⟨aR,aS⟩:=vS D k (j*sz+aq) (ak.eval A).cells.toList I;refine⟨.skip,_,?_,aS,.inl ⟨rfl,aG⟩,λa7 aa=>⟨_,(by rw[show F (s.set j K)=Q by rw[List.length_set];simpa using ay];exact aR),dh,?_⟩⟩
 .simp only[execOp,cK,aQ,UL,qB,storeVar,sizeOf,typeInfo,program,kq,g3,hM,mZ,gn];rw[dA ahq];simp only[gn,ai]
 .refine⟨λo ad=>?_,λg o m an ad N=>?_⟩
  .obtain⟨av,af,rfl⟩:=hT.1 ad;rcases List.mem_or_eq_of_mem_set af with C|C
   .exact t.1 _ (List.mem_map_of_mem C)
   .rw[C,<-am,G2 aP];exact aI
  .rw[gy,sa]at ad;rw[Ug _ _ _ I,a5];by_cases S:j=g
   .subst S;rw[dE rfl]at ad;have aJ:=(ie.1 d).1;rw[dE aJ]at ad;simp only[iq,h0]at ad;subst ad;rw[<-am,Ns aP]at N;by_cases aw:aq<=m/\m<aq+F b
    .rw[dE aw]at N;rw[dE I];have⟨p,aC,au⟩:=al _ an N;exact⟨p,by rw[<-aC];congr 1;omega,au.mono aa⟩
    .rw[dA aw]at N;rw[dA I];have⟨p,aC,au⟩:=t.2 j _ m an ae N;exact⟨p,aC,au.mono aa⟩
   .rw[dA S]at ad;obtain⟨av,af,rfl⟩:=gG.1 ad;have ap:(s.map f)[g]?=B (f av):=by rw[gy,af];rfl
    have a3:=t.1 _ (lp ap);have aw:m<sz:=by have:=(ie.1 N).1;omega
    have⟨p,aC,au⟩:=t.2 g _ m an ap N;refine⟨p,?_,au.mono aa⟩;rw[dA]
    .exact aC
    .rintro⟨aL,aT⟩;rcases Nat.lt_or_gt_of_ne S with aK|aK
     .have:(j+1)*sz<=g*sz:=j1 _ aK;rw[jZ,rh]at this;omega
     .have:(g+1)*sz<=j*sz:=j1 _ aK;rw[jZ,rh]at this;omega
end
end Go.Proofs.YtddmdeaegbfhaaaGreat
