/- Part 5 of what the proof of this law rests on. -/
import Derived.Test.YtddmdeaegbfhaaaGreatKUStorm4
namespace Go.Proofs.YtddmdeaegbfhaaaGreat
set_option linter.all false
set_option maxHeartbeats 40000000
set_option maxRecDepth 100000
open Go.RowKit
open _root_.BitVec renaming ofInt->n8
open _root_.Bool renaming and_true->Vj,not_false->v_,not_true->xE,true_and->Cj,false->Z,true->T
open _root_.Function renaming comp->HA
open Go.IntKind renaming bits->oF,i16->sd,i64->W,signed->rj,u16->fW,u32->e9,u64->cZ,u8->cH,wrap->U
open _root_.Int renaming emod_add_mul_ediv->VA,emod_eq_of_lt->zJ,emod_lt_of_pos->VC,emod_nonneg->VB,fdiv_eq_ediv_of_nonneg->Va,le_refl->nK,mul_comm->Vf,mul_nonneg->Vv,natCast_ediv->Vu,natCast_pow->Oj,natCast_zero->HP,pow_succ->Ve,tdiv_eq_ediv_of_nonneg->ux,tmod->hc,toNat->cM,toNat_natCast->gz
open _root_.List renaming append_assoc->iu,append_nil->nb,drop->k_,drop_drop->ri,drop_eq_nil_of_le->Oh,drop_left->zG,drop_replicate->Vz,drop_set_of_lt->Ox,drop_sublist->atE,filter_append->xK,filter_eq_self->HL,filter_sublist->Oy,find?_eq_none->UP,getElem?_append_right->rc,getElem?_drop->j2,getElem?_eq_getElem->e6,getElem?_eq_none->pv,getElem_append_left->OA,getElem_append_right->Vy,getElem_cons_succ->Vs,getElem_drop->Ot,getElem_map->oG,getElem_mem->fi,getElem_set->v9,getElem_set_self->Vw,getElem_take->uw,length->F,length_append->g9,length_cons->l6,length_drop->my,length_filter_le->xJ,length_map->fT,length_nil->kv,length_replicate->ut,length_set->sb,length_singleton->lG,length_take->hO,map_append->hN,map_cons->hx,map_drop->up,map_nil->jY,map_take->nx,mem_append->gq,mem_cons->l3,mem_filter->oE,mem_iff_getElem->mf,mem_map->hT,mem_of_mem_drop->uv,mem_of_mem_take->tr,mem_or_eq_of_mem_set->xH,mem_singleton->gO,nil_append->k8,not_mem_nil->uo,pairwise_append->py,pairwise_cons->v8,pairwise_iff_getElem->px,pairwise_map->sf,range->jG,replicate->fe,replicate_succ->OB,set_eq_of_length_le->Ow,set_set->Vx,singleton_append->zI,sublist_append_left->Oz,take->f5,take_add_one->xI,take_append_drop->tn,take_append_of_le_length->sc,take_left->rg,take_length->iV,take_nil->pt,take_of_length_le->k9,take_set->Ov,take_sublist->Cq,take_succ_eq_append_getElem->Ou,take_take->ts,take_zero->HQ
open _root_.List.Pairwise renaming imp_of_mem->Vt,sublist->HJ
open _root_.List.Perm renaming refl->HO
open _root_.List.Sublist renaming append_left->Od,refl->xM
open _root_.Nat renaming add_sub_cancel_left->US,add_zero->jO,le_refl->jq,le_trans->mY,lt_or_ge->la,lt_trichotomy->Cr,min_self->HK,shiftRight_eq_div_pow->OC,sub_self->v2,sub_zero->ti,zero_add->gx,zero_le->ny
open _root_.Option renaming bind->O,bind_eq_some_iff->jc,bind_some->cI,getD->se,isSome_iff_exists->lb,none->M,some->B
open _root_.Option.some renaming inj->mg
open _root_.Sum renaming elim->ku,elim_inl->xL,elim_inr->HN,inl->dV,inr->du
noncomputable section
section
attribute [local irreducible] TS go TD goD
def Ey:X Bool:=O (z2 ([]:E Int)) λd=>O (AB 2) λk=>O (yr d k) λa=>cond a.2.2.1 (cond ((F a.1.fB:Int) !=2) M<|O (tG 1) λl=>O (AD ({d with at_:=a.2.2.2}) 0 l 3) λi=>O (AF a.1 0 i.1) λb=>cond b.2.2 (O (ro b.1 3) λg=>cond (g.2==0) (O (Qn g.1 0 1 b.2.1 i.1 1) λj=>B (j)) M) M) M
def aqd(r)(h:Ey=B r):dX 17 [] ((e4 r)):=dc<|dN 6 [[2]] [(8,10)] M h acz λa h=>dN 5 [] [(11,c9)] M h acg λg h=>dN 0 [[],[38]] [(12,k4)] (B (8,0)) h ach λi h=>hW 15 [15,4,16] [17,18] h λh=>eI 6 [22,23] [] h λh=>db 4 h BX λj h=>dN 0 [] [] (B (8,0)) h ado λk h=>db 7 h adq λl h=>hb 14 [4,33,34] [35] h λh=>dN 4 [] [(38,ng),(c8,j4),(eK,mj)] M h M7 λb h=>hW 11 [42,43] [] h λh=>nF 3 [[0,79,2,2,4,2,48]] h aqc λd h=>cJ 4 h
def qE(g:Int)(d:(E ee)×E Int×E Int×E Int×Int×Int×eZ)(a:(E ee)×E Int×E Int×E Int×Int×eZ):X ((E ee×E Int×E Int×E Int×Int×Int×eZ)⊕((E ee×E Int×E Int×E Int×eZ)⊕Bool)):=O (ro a.2.2.2.2.2 (hc (hf W g 1024) 4)) λb=>cond (b.2 !=0) (B (du (du Z)))<|B (dV (a.1,a.2.1,a.2.2.1,a.2.2.2.1,U W (d.2.2.2.2.1+1),a.2.2.2.2.1,b.1))
def WJ(j:E Int)(d:Int×Int)(A:eZ×E (E Int)×Bool×Int)(k:E Int)(x:iD)(a:(E ee)×E Int×E Int×E Int×Int×Int×eZ):X ((E ee×E Int×E Int×E Int×Int×Int×eZ)⊕((E ee×E Int×E Int×E Int×eZ)⊕Bool)):=cond (decide (a.2.2.2.2.1<(F j:Int))) (cond (decide (a.2.2.2.2.1<25)) (O (di j a.2.2.2.2.1) λp=>O (ID p 16777216) λb=>cond (decide ((U W (2+d.1))≠0)) (cond (decide ((U W (2+d.1))≠0)) (cond ((hc (hf W b 64) 8)==0) (O (AE a.2.2.2.2.2.2 A.2.1 ((hc (hf W b 512) 2)==0)) λy=>(qE b a) (a.1,a.2.1,a.2.2.1,a.2.2.2.1,a.2.2.2.2.2.1,y.1))<|cond ((hc (hf W b 64) 8)==1) (O (n_ a.2.2.2.2.2.2 (pM.mk 2 (hc b (U W (2+d.1))) 0 Z (U W (500+a.2.2.2.2.1)) (ee.mk 0 0 0 0 eP eP 0 0 ([]:E Int)) [] (kS.mk 0 [] [0,0,0,0,0,0,0,0]) (iw.mk eP eP 0 0))) λl=>cond (l.2==0) ((qE b a) (a.1,a.2.1,a.2.2.1,a.2.2.2.1,a.2.2.2.2.2.1,l.1))<|(qE b a) (a.1,a.2.1,a.2.2.1,a.2.2.2.1,a.2.2.2.2.2.1,a.2.2.2.2.2.2))<|cond ((hc (hf W b 64) 8)==2) (O (n_ a.2.2.2.2.2.2 (pM.mk 3 (hc b (U W (2+d.1))) 0 ((hc (hf W b 512) 2)==0) 0 (ee.mk 0 0 0 0 eP eP 0 0 ([]:E Int)) [] (kS.mk 0 [] [0,0,0,0,0,0,0,0]) (iw.mk eP eP 0 0))) λm=>cond (m.2==0) ((qE b a) (a.1,a.2.1,a.2.2.1,a.2.2.2.1,a.2.2.2.2.2.1,m.1))<|(qE b a) (a.1,a.2.1,a.2.2.1,a.2.2.2.1,a.2.2.2.2.2.1,a.2.2.2.2.2.2))<|cond ((hc (hf W b 64) 8)==3) (O (n_ a.2.2.2.2.2.2 (pM.mk 10 0 0 Z 0 (ee.mk 0 0 0 0 eP eP 0 0 ([]:E Int)) k (kS.mk 0 [] [0,0,0,0,0,0,0,0]) (iw.mk eP eP 0 0))) λo=>cond (o.2==0) (cond (decide ((F k:Int)<200)) ((qE b a) (a.1,a.2.1,a.2.2.1,a.2.2.2.1,a.2.2.2.2.2.1,o.1))<|(qE b a) (a.1,a.2.1,a.2.2.1,a.2.2.2.1,a.2.2.2.2.2.1,a.2.2.2.2.2.2))<|(qE b a) (a.1,a.2.1,a.2.2.1,a.2.2.2.1,a.2.2.2.2.2.1,a.2.2.2.2.2.2))<|O (tG (hc (hf W b 8) (U W (2+d.1)))) λz=>O (AD ({x with at_:=a.2.2.2.2.2.1}) (hc b (U W (2+d.1))) z 150) λg=>O (AF a.2.2.2.2.2.2 (hc b (U W (2+d.1))) g.1) λi=>cond i.2.2 (O (ej 72 a.1 (cQ.cL .c_ ([g.1]:E ee))) λq=>O (ej 8 a.2.1 (cQ.cL .c_ ([hc b (U W (2+d.1))]:E Int))) λs=>O (ej 8 a.2.2.1 (cQ.cL .c_ ([hc (hf W b 8) (U W (2+d.1))]:E Int))) λt=>O (ej 4 a.2.2.2.1 (cQ.cL .c_ ([i.2.1]:E Int))) λu=>(qE b a) (q,s,t,u,g.2,i.1))<|(qE b a) (a.1,a.2.1,a.2.2.1,a.2.2.2.1,g.2,a.2.2.2.2.2.2)) M) M)<|B (du (dV (a.1,a.2.1,a.2.2.1,a.2.2.2.1,a.2.2.2.2.2.2))))<|B (du (dV (a.1,a.2.1,a.2.2.1,a.2.2.2.1,a.2.2.2.2.2.2)))
def WK(b:(E ee)×E Int×E Int×E Int×eZ)(o:eZ×Int)(a:Int×Int):X ((Int×Int)⊕(Int⊕Bool)):=cond (decide (a.2<(F b.1:Int))) (O (di b.2.1 a.2) λg=>O (di b.2.2.2.1 a.2) λi=>O (EC o.1 1 g i) λd=>cond (decide (d.1>1)) (B (du (du Z)))<|cond (d.1==1) (O (di b.2.2.1 a.2) λj=>cond (d.2.1 !=j) (B (du (du Z)))<|O (di b.1 a.2) λk=>O (di b.1 a.2) λl=>O (DS ({d.2.2 with e3:=k.e3}) l) λp=>cond p (O (di b.1 a.2) λm=>cond (decide (d.2.2.e3>m.e3)) (B (du (du Z)))<|B (dV (U W (a.1+d.1),U W (a.2+1))))<|B (du (du Z)))<|O (di b.1 a.2) λq=>B (dV (U W (a.1+d.1),U W (a.2+1))))<|B (du (dV a.1))
def KY(a:Int×Int)(b:Int):X ((Int×Int)⊕Int):=B (dV (b,U W (a.2+1)))
def WL(b:eZ×Int)(a:Int×Int):X ((Int×Int)⊕Int):=cond (decide (a.2<(F b.1.fI:Int))) (O (di b.1.fI a.2) λd=>cond (d.hC.gi==1) ((KY a) (U W (a.1+1)))<|(KY a) a.1)<|B (du a.1)
def AA(j k l:E Int):X Bool:=O (z2 j) λd=>O (pC d 3) λb=>O (AB (U W (2+b.1))) λp=>O (yr ({d with at_:=b.2}) p) λa=>cond a.2.2.1 (cond ((F a.1.fB:Int) !=(U W (2+b.1))) (B (Z))<|(dq (WJ k b a l d) (([]:E ee),[],[],[],0,a.2.2.2,a.1)).bind (ku (λi=>(ro i.2.2.2.2 20).bind λg=>bif (g.2 !=0)then B (Z)else(dq (WK i g) (0,0)).bind (ku (λm=>(dq (WL g) (0,0)).bind λo=>(Ey).bind λq=>bif q then B ((o==m))else B (Z)) (λt=>B t))) (λs=>B s)))<|B (Z)
abbrev Ze:=cX [9,33,39,40] [9,191,600004,600005]
def aqb{z A C}(r)(h:AA z A C=B r):dX 4 [dJ 1 (c4 W) z,dJ 1 (c4 W) A,dJ 1 (c4 cH) C] ((e4 r)):=dc<|dN 7 [] [(42,10)] M h acz λD h=>dN 5 [] [] (B (42,0)) h rU λK h=>dN 7 [] [(49,c9)] M h acg λax h=>dN 0 [[],[38]] [(50,k4)] (B (42,0)) h ach λaB h=>gp 15 [53,11,54] [55,56] h (λh=>c7 7 [61,62] [] h (λh=>cJ 6 h) λh=>f9 20 12 c8 52 39<|f9 0 13 eK 3 1<|f9 0 14 e8 3 1<|f9 0 15 g_ 47 1<|lY 0 h (cX [1,2,7,8,9,10,12,13,14,15,16] [42,9,50,c8,eK,e8,g_]) (λb=>[(12,.c<|d7 39 e8 ee.cs b.1),(13,.c<|d7 1 g_ (c4 W) b.2.1),(14,.c<|d7 1 iW (c4 W) b.2.2.1),(15,.c<|d7 1 kP (c4 e9) b.2.2.2.1),(16,cS b.2.2.2.2.1)]) (λb=>[(42,.box<|iD.cs<|{D with at_:=b.2.2.2.2.2.1}),(9,.box<|eZ.cs b.2.2.2.2.2.2),(c8,cW 52 39 b.1),(eK,cW 3 1 b.2.1),(e8,cW 3 1 b.2.2.1),(g_,cW 47 1 b.2.2.2.1)]) 0 (cX [9,12,13,14,15] [9,c8,eK,e8,g_]) (λg=>[(12,.c<|d7 39 e8 ee.cs g.1),(13,.c<|d7 1 g_ (c4 W) g.2.1),(14,.c<|d7 1 iW (c4 W) g.2.2.1),(15,.c<|d7 1 kP (c4 e9) g.2.2.2.1)]) (λg=>[(9,.box<|eZ.cs g.2.2.2.2),(c8,cW 52 39 g.1),(eK,cW 3 1 g.2.1),(e8,cW 3 1 g.2.2.1),(g_,cW 47 1 g.2.2.2.1)]) (λaH Q b a h ab=>gp 8 [66,67] [] h (λh=>c7 4 [69,70] [] h (λh=>e5 7 (c4 W) h λah h=>db 1 h aoS λx h=>dK 3 2<|eX h λS h=>AW (op:=.rem) (g:=W) (b:=W) (A:=x) (j:=U W<|2+K.1) (f8 S) rfl dh J J<|eX h λaa h=>fa 3<|AW (op:=.rem) (g:=W) (b:=W) (A:=hf W x 8) (j:=U W<|2+K.1) (f8 aa) rfl dh J J<|dG 2 0<|fR 0 (cX [1,2,7,8,9,10,12,13,14,15,16,17] [42,9,50,c8,eK,e8,g_]) (λd=>[(12,.c<|d7 39 e8 ee.cs d.1),(13,.c<|d7 1 g_ (c4 W) d.2.1),(14,.c<|d7 1 iW (c4 W) d.2.2.1),(15,.c<|d7 1 kP (c4 e9) d.2.2.2.1)]) (λd=>[(42,.box<|iD.cs<|{D with at_:=d.2.2.2.2.1}),(9,.box<|eZ.cs d.2.2.2.2.2),(c8,cW 52 39 d.1),(eK,cW 3 1 d.2.1),(e8,cW 3 1 d.2.2.1),(g_,cW 47 1 d.2.2.2.1)]) (qE x b) a (λd h=>dN 6 [] [(183,ng),(iW,j4),(kP,mj)] M h M7 λaq h=>c7 13 [187] [] h (λh=>iB 8 h ab Q λh=>cJ 2 h) λh=>cV 11<|by cases h;exact Ff _ ⟨[(1,[]),(2,[]),(7,[]),(8,[]),(9,[]),(10,[]),(12,[]),(13,[]),(14,[]),(15,[]),(16,[])],[(42,(42,[])),(9,(9,[0,79,0,0,4,0,48])),(50,(50,[])),(c8,(c8,[])),(eK,(eK,[])),(e8,(e8,[])),(g_,(g_,[]))]⟩ rfl J J)<|c7 12 [120,119] [] h (λh=>nF 7 [[],[3]] h adp λar h=>dQ 6 h) λh=>c7 5 [132,131] [] h (λh=>dN 7 [[],Fp] [(139,ng),(iW,j4),(kP,mj)] M h GL λau h=>c7 12 [143] [] h (λh=>h5 5 ⟨[(1,[]),(2,[]),(7,[]),(8,[]),(9,[]),(10,[]),(12,[]),(13,[]),(14,[]),(15,[]),(16,[]),(17,[])],[(42,(42,[])),(9,(9,[0,79,0,0,4,0,48])),(50,(50,[])),(c8,(c8,[])),(eK,(eK,[])),(e8,(e8,[])),(g_,(g_,[]))]⟩ h) λh=>dQ 2 h) λh=>c7 5 [146,145] [] h (λh=>dN 9 [[],Fp] [(155,ng),(iW,j4),(kP,mj)] M h GL λav h=>c7 12 [159] [] h (λh=>h5 5 ⟨[(1,[]),(2,[]),(7,[]),(8,[]),(9,[]),(10,[]),(12,[]),(13,[]),(14,[]),(15,[]),(16,[]),(17,[])],[(42,(42,[])),(9,(9,[0,79,0,0,4,0,48])),(50,(50,[])),(c8,(c8,[])),(eK,(eK,[])),(e8,(e8,[])),(g_,(g_,[]))]⟩ h) λh=>dQ 2 h) λh=>c7 5 [162,161] [] h (λh=>dN 5 [[],Fp] [(167,ng),(iW,j4),(kP,mj)] M h GL λaw h=>gp 12 [171,172] [] h (λh=>c7 5 [175,176] [] h (λh=>h5 5 ⟨[(1,[]),(2,[]),(7,[]),(8,[]),(9,[]),(10,[]),(12,[]),(13,[]),(14,[]),(15,[]),(16,[]),(17,[])],[(42,(42,[])),(9,(9,[0,79,0,0,4,0,48])),(50,(50,[])),(c8,(c8,[])),(eK,(eK,[])),(e8,(e8,[])),(g_,(g_,[]))]⟩ h) λh=>dQ 2 h) λh=>dt 5<|dQ 2 h) λh=>db 5 h BX λay h=>dN 0 [] [] (B (42,0)) h ado λaz h=>db 8 h adq λaA h=>c7 13 [100,29,101] [] h (λh=>jL 8 105 52 39 ee.cs A7 0 c8 h λam h=>jL 2 109 3 1 (c4 W) [] 0 eK h λan h=>jL 2 113 3 1 (c4 W) [] 0 e8 h λao h=>jL 2 117 47 1 (c4 e9) [] 0 g_ h λap h=>dQ 6 h) λh=>dQ 2 h) λh=>eo 2 h) λh=>dt 4<|eo 2 h) λg h=>dN 4 [] [(191,ng),(iW,j4),(kP,mj)] M h M7 λaC h=>c7 12 [195] [] h (λh=>cJ 6 h) λh=>lY 11 h (cX [9,12,13,14,15,33,34] [9,c8,eK,e8,g_,191,iW,kP]) (λm=>[(33,cS m.1),(34,cS m.2)]) (λm=>[]) 3 (cX [9,33] [9,191,iW,kP]) (λo=>[(33,cS o)]) (λo=>[]) (λaG k m a h l=>c7 8 [199] [] h (λh=>dK 4 3<|hE 0 (c4 W) h λai h=>hE 3 (c4 e9) h λaj h=>Z5 1 [[0,79,2,2,4,2,48]] h adn λaD h=>dG 8 6<|gp 0 [217,218] [] h (λh=>dt 12<|iB 8 h l k λh=>cJ 2 h) λh=>vH 3 [220,221] [] h (λs h=>e5 3 (c4 W) h λad h=>c7 5 [227,228,229] [] h (λh=>iB 8 h l k λh=>cJ 2 h) λh=>e5 11 ee.cs h λak h=>dK 7 1<|fc 0 s<|hE 4 ee.cs h λal h=>d0 1 h ac4 λaE h=>eN h (λt i=>by subst t;exact hE 5 ee.cs i λae i=>dG 5 0<|c7 0 [255,256,257] [] i (λi=>iB 8 i l k λi=>cJ 2 i) λi=>ey 13 i) λt q=>by subst t;exact dG 11 0<|dt 0<|iB 8 q l k λq=>cJ 2 q) λs h=>dt 9<|e5 11 ee.cs h λaf h=>dK 7 1<|fc 0 s<|dG 18 0<|dt 0<|ey 13 h) λh=>eo 2 h) λo h=>eQ 11 h Ze (λj=>[(39,cS j.1),(40,cS j.2)]) (λj=>[]) 5 (cX [33,39] []) (λp=>[(39,cS p)]) (λp=>[]) (λj a h=>c7 9 [265] [] h (λh=>fR 1 Ze (λy=>[(39,cS y)]) (λy=>[]) (KY j) a (λy h=>ey 5 h)<|e5 6 gK.cs h λag h=>c7 5 [275] [] h (λh=>dQ 6 h) λh=>dQ 2 h) λh=>eo 2 h) λp h=>db 3 h aqd λaF h=>eN h (λu N=>by subst u;exact cJ 8 N) λu P=>by subst u;exact cJ 8 P) λh=>dt 7<|cJ 6 h
end
def de{ag:Type}(y:X ag)(ah:ag->Prop):Prop:=∃t,y=B t/\ah t
variable{ag D s S:Type}{ah:ag->Prop}
def dg{t:ag}:de (B t) ah↔ah t:=⟨λ⟨_,h,g⟩=>by cases h;exact g,λh=>⟨t,rfl,h⟩⟩
def sJ{a:X D}{f:D->X ag}:de (a.bind f) ah↔de a λl=>de (f l) ah:=by
 constructor
 .rintro⟨t,h,C⟩;have⟨l,G,b⟩:=jc.1 h;exact⟨l,G,t,b,C⟩
 .rintro⟨l,G,t,b,C⟩;exact⟨t,jc.2 ⟨l,G,b⟩,C⟩
def ep{c:Bool}{t l:X ag}:de (bif c then t else l) ah↔(c=T->de t ah)/\(c=Z->de l ah):=by cases c<;>simp
def de.mono{a:X ag}{u:ag->Prop}(h:de a u)(g:∀t,u t->ah t):de a ah:=let⟨t,G,b⟩:=h;⟨t,G,g t b⟩
def de.p1{a:X ag}{t:ag}(h:a=B t)(C:ah t):de a ah:=⟨t,h,C⟩
def de.bind{a:X D}{f:D->X ag}{u:D->Prop}(h:de a u)(g:∀l,u l->de (f l) ah):de (a.bind f) ah:=sJ.2 (h.mono g)
def hk{i:s->X (s⊕S)}{ah:S->Prop}(y:s->Prop)(A:s->Nat)(aj:∀q,y q->de (i q) λa=>(∃ao,a=.inl ao/\y ao/\A ao<A q)\/∃r,a=.inr r/\ah r){q:s}(h:y q):de (dq i q) ah:=by
 refine vJ y ah A (λq hi=>?_) q h;obtain⟨a,G,b|b⟩:=aj q hi
 .obtain⟨ao,rfl,d⟩:=b;exact .inl ⟨ao,G,d⟩
 .obtain⟨r,rfl,d⟩:=b;exact .inr ⟨r,G,d⟩
def mW{g:Nat}(h:g<4611686018427387904):U W (g:Int)=(g:Int):=fx I I
def e7{g:Nat}(h:g<4611686018427387904):U W ((g:Int)+1)=((g+1:Nat):Int):=md g I
def dO{t l:Nat}:decide ((t:Int)<(l:Int))=decide (t<l):=dh
def iy{ag:Type}(f:ag->Nat)(s:E ag):Prop:=s.Pairwise λt l=>f t<f l
def iE(t l:Nat):Int:=if t<l then-1 else if t=l then 0 else 1
variable{f:ag->Nat}{s:E ag}
def iy.jT(h:iy f s){j m:Nat}(a:j<m)(aw:m<F s):f (s[j]'I)<f s[m]:=px.1 h j m I aw a
def iy.abT(h:∀j (hi:j+1<F s),f (s[j]'I)<f s[j+1]):iy f s:=by
 refine px.2 λj m hi aw b=>?_
 induction m with
 |zero=>omega
 |succ m a=>
  rcases la j m with G|G
  .exact Nat.lt_trans (a I G)<|h m aw
  .have:j=m:=by omega
   subst this;exact h j aw
def iy.sub{a:E ag}(h:iy f s)(g:a.Sublist s):iy f a:=HJ g h
def iy.len:∀{s:E ag} {n:Nat},iy f s->(∀a∈s,f a<n)->F s<=n
 |[],_,_,_=>ny _
 |a::s,n,h,g=>by
  have G:=v8.1 h;have cR:=g a dh;have key:∀(s:E ag) (t n:Nat),iy f s->(∀a∈s,t<=f a/\f a<n)->F s+t<=n\/s=[]:=by
   intro s;induction s with
   |nil=>intro t n _ _;exact .inr rfl
   |cons o s j=>
    intro t n h g;have b:=v8.1 h;have ad:=g o dh;rcases j (f o+1) n b.2 (λa d=>⟨b.1 a d,(g a (by simp[d])).2⟩)with i|i
    .left;simp only[l6];omega
    .subst i;left;simp;omega
  rcases key (a::s) 0 n h (λo ad=>⟨ny _,g o ad⟩)with b|b
  .omega
  .cases b
def dn(f:ag->Nat)(s:E ag)(g:Nat):Nat:=F (s.filter λa=>decide (f a<g))
def rW(s:E ag)(g:Nat):dn f s g<=F s:=xJ _ _
def s7:∀{s:E ag},iy f s->∀(g j:Nat) (hi:j<F s),f s[j]<g↔j<dn f s g
 |[],_,_,j,hi=>by simp at hi
 |a::s,h,g,j,hi=>by
  have G:=v8.1 h;unfold dn;by_cases d:f a<g
  .rw[List.filter_cons_of_pos Xw];cases j with
   |zero=>simp[d]
   |succ j=>have:=s7 G.2 g j (by simpa using hi);unfold dn at this;simp only[Vs,l6];omega
  .have dI:(s.filter λa=>decide (f a<g))=[]:=by rw[List.filter_eq_nil_iff];intro o ad;have:=G.1 o ad;simp;omega
   rw[List.filter_cons_of_neg Xw,dI];simp only[kv,Nat.not_lt_zero,iff_false,Nat.not_lt];cases j with
   |zero=>simpa using d
   |succ j=>have:=G.1 (s[j]'(by simpa using hi)) (fi _);simp only[Vs];omega
def iy.kF(h:iy f s){a:ag}{z:Nat}(Y:z<=F s)(G:∀j (hi:j<z),f (s[j]'I)<f a)(g:∀j (_:z<=j) (hi:j<F s),f a<f s[j]):iy f (s.take z++[a]++s.drop z):=by
 unfold iy;rw[py,py];refine⟨⟨h.sub<|Cq _ _,dh,λt b l d=>?_⟩,h.sub<|atE _ _,λt b l d=>?_⟩
 .rw[gO.1 d];obtain⟨j,hi,rfl⟩:=mf.1 b;rw[uw];simp at hi;exact G j I
 .obtain⟨m,aw,rfl⟩:=mf.1 d;simp at aw;rw[Ot];rcases gq.1 b with b|b
  .obtain⟨j,hi,rfl⟩:=mf.1 b;simp at hi;rw[uw];exact h.jT I I
  .rw[gO.1 b];exact g _ I I
def iy.put(h:iy f s){a:ag}{z:Nat}(Y:z<F s)(d:f a=f s[z]):iy f (s.set z a):=by
 refine px.2 λj m hi aw b=>?_
 simp only[sb]at hi aw;rw[v9,v9];split
 next G=>subst G;rw[dA I,d];exact h.jT b aw
 .split
  next g=>subst g;rw[d];exact h.jT b Y
  .exact h.jT b aw
def M0{j m:Nat}(h:j+m<4611686018427387904):U W (gh cZ (U cZ (U W ((j:Int)+(m:Int)))) 1)=(((j+m)/2:Nat):Int):=by rw[(wT:(j:Int)+(m:Int)=((j+m:Nat):Int)),mW h,ju I I,aa4 I I];simp only[Int.toNat_one,Ve,Int.pow_zero,Int.one_mul];rw[(dd:((j+m:Nat):Int)/2=(((j+m)/2:Nat):Int))];exact mW I
def L1{i:Int×Int->X ((Int×Int)⊕Int)}(Q z:Nat)(Y:z<=Q)(h:∀j m:Nat,j<m->m<=Q->i ((j:Int),(m:Int))=B (.inl (if(j+m)/2<z then((((j+m)/2+1:Nat):Int),(m:Int))else((j:Int),(((j+m)/2:Nat):Int)))))(d:∀j:Nat,i ((j:Int),(j:Int))=B (.inr (j:Int))):dq i (0,(Q:Int))=B (z:Int):=by
 have:=hk (i:=i) (ah:=λr=>r=(z:Int)) (λq=>∃j m:Nat,q=((j:Int),(m:Int))/\j<=z/\z<=m/\m<=Q) (λq=>(q.2-q.1).toNat) (λq aj=>?_) (q:=(0,(Q:Int))) ⟨0,Q,rfl,ny _,Y,jq _⟩
 .obtain⟨r,G,rfl⟩:=this;exact G
 .obtain⟨j,m,rfl,G,b,a⟩:=aj;by_cases g:j<m
  .refine de.p1 (h j m g a) (.inl ⟨_,rfl,?_⟩);split
   .exact⟨⟨_,_,rfl,I,b,a⟩,ew⟩
   .exact⟨⟨_,_,rfl,G,I,I⟩,ew⟩
  .have:j=m:=by omega
   subst this;exact de.p1 (d j)<|.inr ⟨_,rfl,I⟩
def nr{S:Type}{i:Int->X (Int⊕S)}{Q:Nat}{r:S}(h:∀g,g<Q->i (g:Int)=B (.inl ((g+1:Nat):Int)))(a:i (Q:Int)=B (.inr r)):dq i 0=B r:=ow (λg=>(g:Int)) Q h a
def Gf{ag:Type}{l:Nat}{s:E ag}{z:Nat}{a:ag}(Y:z<=F s)(b:(F s+1)*l<=140737488355328)(cN:F s<140737488355328):q1 l s (z:Int) a=B (s.take z++[a]++s.drop z):=by unfold q1;rw[dE ⟨I,I,b,wI⟩];simp
def yO{ag:Type}{l:Nat}{s:E ag}(h:F s*l<=140737488355328)(aF:F s<=140737488355328):ej l [] s=B s:=by rw[i8 qe (by simpa using aF)];rfl
def fF(j:Nat):Int:=144115188075855873+j
def fk(j:Nat):E Int:=[32,1,13,184,0,0,0,0,0,0,0,0,0,0,0,(j:Int)+1]
def jX:E Int:=eP
def dst(j:Nat):c0:=⟨⟨fk j,128⟩,⟨jX,0⟩,fF j⟩
def iN(j:Nat):gl:=⟨⟨fk j,128⟩,⟨jX,0⟩⟩
def jR:gj:=⟨0,⟨[32,1,13,184,0,0,0,0,0,0,0,0,0,0,0,0],64⟩,T,1099511627776⟩
def amm{m:Nat}(h:m<4):m=0\/m=1\/m=2\/m=3:=I
def kB{z:Nat->Prop}(dI:z 0)(G:z 1)(a:z 2)(b:z 3){m:Nat}(h:m<4):z m:=by rcases amm h with rfl|rfl|rfl|rfl<;>assumption
def wW{z:Nat->Nat->Prop}(h:∀j,j<4->z j 0/\z j 1/\z j 2/\z j 3){j m:Nat}(hi:j<4)(aw:m<4):z j m:=by have⟨dI,G,a,b⟩:=h j hi;exact kB dI G a b aw
def vy{j m:Nat}(h:fF j=fF m):j=m:=by unfold fF at h;omega
def y1(j:Nat):fF j≠0:=W2
def hX(e:Int):Nat:=(e-144115188075855873).toNat
def rR(j:Nat):hX (fF j)=j:=by unfold hX fF;omega
def fC(a:c0):Nat:=hX a.dW
def vF(j:Nat):fC (dst j)=j:=rR j
def kj(n:Nat)(a:c0):Prop:=∃m,m<n/\a=dst m
def hQ(n j:Nat)(e:Int):Prop:=∃g,g<n/\g≠j/\e=fF g
def kj.lt{n:Nat}{a:c0}(h:kj n a):fC a<n:=by obtain⟨m,h,rfl⟩:=h;rw[vF];exact h
def kj.lS{n:Nat}{a:c0}(h:kj n a):a=dst (fC a):=by obtain⟨m,h,rfl⟩:=h;rw[vF]
def hQ.lt{n j:Nat}{e:Int}(h:hQ n j e):hX e<n:=by obtain⟨m,h,_,rfl⟩:=h;rw[rR];exact h
def hQ.lS{n j:Nat}{e:Int}(h:hQ n j e):e=fF (hX e):=by obtain⟨m,h,_,rfl⟩:=h;rw[rR]
def hQ.ox{n j:Nat}{e:Int}(h:hQ n j e):e≠fF j:=by obtain⟨m,_,h,rfl⟩:=h;exact λC=>h (vy C)
def hQ.zd{n j:Nat}{e:Int}(h:hQ n j e):e≠0:=by obtain⟨m,_,_,rfl⟩:=h;exact y1 m
def Uz{m:Nat}(h:m<4):ne (dst m)=B T:=kB (z:=λm=>ne (dst m)=B T) J J J J h
def akl{j m:Nat}(hi:j<4)(aw:m<4):nP (dst j) (dst m)=B (iE j m):=by refine wW (z:=λj m=>nP (dst j) (dst m)=B (iE j m)) (λj hi=>?_) hi aw;refine kB (z:=λj=>nP (dst j) (dst 0)=B (iE j 0)/\nP (dst j) (dst 1)=B (iE j 1)/\nP (dst j) (dst 2)=B (iE j 2)/\nP (dst j) (dst 3)=B (iE j 3)) ?_ ?_ ?_ ?_ hi<;>exact⟨J,J,J,J⟩
def aad{j m:Nat}(hi:j<4)(aw:m<4):c0.fV (dst j) (dst m)=decide (j=m):=by refine wW (z:=λj m=>c0.fV (dst j) (dst m)=decide (j=m)) (λj hi=>?_) hi aw;refine kB (z:=λj=>c0.fV (dst j) (dst 0)=decide (j=0)/\c0.fV (dst j) (dst 1)=decide (j=1)/\c0.fV (dst j) (dst 2)=decide (j=2)/\c0.fV (dst j) (dst 3)=decide (j=3)) ?_ ?_ ?_ ?_ hi<;>exact⟨J,J,J,J⟩
def rb{n:Nat}(cR:n<=4){a:c0}(h:kj n a):ne a=B T:=by obtain⟨m,h,rfl⟩:=h;exact Uz I
def tZ{n:Nat}(cR:n<=4){t l:c0}(a:kj n t)(b:kj n l):nP t l=B (iE (fC t) (fC l)):=by obtain⟨j,G,rfl⟩:=a;obtain⟨m,d,rfl⟩:=b;rw[vF,vF];exact akl I I
def t0{n:Nat}(cR:n<=4){t l:c0}(a:kj n t)(b:kj n l):c0.fV t l=decide (fC t=fC l):=by obtain⟨j,G,rfl⟩:=a;obtain⟨m,d,rfl⟩:=b;rw[vF,vF];exact aad I I
def kj.inj{n:Nat}{t l:c0}(a:kj n t)(b:kj n l)(h:fC t=fC l):t=l:=by rw[a.lS,b.lS,h]
def pd{t l:Nat}:iE t l<0↔t<l:=agD
def akk{t l:Nat}:iE t l>=0↔l<=t:=agD
theorem L8{t l:Nat}:(iE t l==0)=decide (t=l):=by
 unfold iE;split
 .simp;omega
 .split<;>simp_all
def fy(a:Int):Prop:=0<=a/\a<=1099511627776
def k3(A:Int):Prop:=0<=A/\A<65535
def g6(a:Int):Prop:=0<=a/\a<65536
def N7(a:Int):g6 (U fW a):=by rw[Ce];unfold g6;omega
def Gw{A:Int}(h:0<=A)(aF:A<=65535):oM A=B T:=by unfold oM;rw[dz h,dz aF];rfl
theorem FR{ag:Type}(L:E ag)(j A:Nat)(an:ag)(hi:j<=F L):(jl L j A an).take j=L.take j:=by unfold jl;rw[iu,sc cU,ts,HK]
def FQ{ag:Type}{L:E ag}{j A:Nat}{an:ag}(hi:j<=F L):(j:Int)<=(F (jl L j A an):Int):=by unfold jl;simp only[g9,hO];omega
theorem Z7{ag S:Type}(an:ag){s:E ag}{C:Nat}(ap:C<F s)(cN:F s<=100000)(a:E ag->X S):
  (bif decide ((0:Int)<=(C:Int)/\(C:Int)<=(U W<|(C:Int)+1)/\(U W<|(C:Int)+1)<=(F s:Int)/\(F s:Int)<=(F s:Int))then bif ((C:Int)==(U W<|(C:Int)+1))then M else bif decide ((0:Int)<=0/\0<=(C:Int)/\(C:Int)<=(F s:Int))then bif decide ((0:Int)<=(U W<|(C:Int)+1)/\(U W<|(C:Int)+1)<=(F s:Int)/\(F s:Int)<=(F s:Int))then bif decide ((cM (C:Int))+F (cQ.cL (.part (cM<|U W<|(C:Int)+1)<|cM (F s:Int)-cM (U W<|(C:Int)+1)) s)<=F s)then bif decide ((0:Int)<=(((cM (C:Int))+F (cQ.cL (.part (cM<|U W<|(C:Int)+1)<|cM (F s:Int)-cM (U W<|(C:Int)+1)) s)):Int)/\(((cM (C:Int))+F (cQ.cL (.part (cM<|U W<|(C:Int)+1)<|cM (F s:Int)-cM (U W<|(C:Int)+1)) s)):Int)<=(F s:Int)/\(F s:Int)<=(F (f5 (cM (C:Int)) s++(cQ.cL (.part (cM<|U W<|(C:Int)+1)<|cM (F s:Int)-cM (U W<|(C:Int)+1)) s)++k_ ((cM (C:Int))+F (cQ.cL (.part (cM<|U W<|(C:Int)+1)<|cM (F s:Int)-cM (U W<|(C:Int)+1)) s)) s):Int))then a (f5 ((cM (C:Int))+F (cQ.cL (.part (cM<|U W<|(C:Int)+1)<|cM (F s:Int)-cM (U W<|(C:Int)+1)) s))<|jl (f5 (cM (C:Int)) s++(cQ.cL (.part (cM<|U W<|(C:Int)+1)<|cM (F s:Int)-cM (U W<|(C:Int)+1)) s)++k_ ((cM (C:Int))+F (cQ.cL (.part (cM<|U W<|(C:Int)+1)<|cM (F s:Int)-cM (U W<|(C:Int)+1)) s)) s) (cM (((cM (C:Int))+F (cQ.cL (.part (cM<|U W<|(C:Int)+1)<|cM (F s:Int)-cM (U W<|(C:Int)+1)) s)):Int)) (F<|cQ.cL (.part (cM (((cM (C:Int))+F (cQ.cL (.part (cM<|U W<|(C:Int)+1)<|cM (F s:Int)-cM (U W<|(C:Int)+1)) s)):Int))<|cM (F s:Int)-cM (((cM (C:Int))+F (cQ.cL (.part (cM<|U W<|(C:Int)+1)<|cM (F s:Int)-cM (U W<|(C:Int)+1)) s)):Int))<|f5 (cM (C:Int)) s++(cQ.cL (.part (cM<|U W<|(C:Int)+1)<|cM (F s:Int)-cM (U W<|(C:Int)+1)) s)++k_ ((cM (C:Int))+F (cQ.cL (.part (cM<|U W<|(C:Int)+1)<|cM (F s:Int)-cM (U W<|(C:Int)+1)) s)) s) an)else M else M else M else M else M)=a (s.take C++s.drop (C+1)):=by
 rw[md C I];simp only[cQ.cL,gz];have b:(s.drop<|C+1).take (F s-(C+1))=s.drop (C+1):=k9 cU;have d:F (s.drop<|C+1)=F s-(C+1):=my;simp only[b];generalize g:s.drop (C+1)=eH at d;have ar:F (s.take C++eH++s.drop (C+F eH))=F s:=by simp only[g9,hO,my];omega
 rw[ar,dz I,hl dd,dz I,dz I,dz dd,dz I];simp only[c6,dm];congr 1;unfold jl;rw[(dd:((C:Int)+(F eH:Int)).toNat=C+F eH),iu (f5 (C+F eH) _),sc (by rw[hO,ar];omega),ts,HK,sc fv,k9 fv]
def amb{ag:Type}{s:E ag}{z:Nat}(Y:z<=F s)(an:ag):F (s.take z++[an]++s.drop z)=F s+1:=fv
theorem arS{ag:Type}{s:E ag}{z:Nat}(Y:z<=F s)(an o:ag):(s.take z++[an]++s.drop z).set z o=s.take z++[o]++s.drop z:=by rw[iu,iu,zI,zI];exact Hi _ _ _ _ cU
theorem abA{ag:Type}{s:E ag}{z:Nat}{a o:ag}(h:o∈s.take z++[a]++s.drop z):o∈s\/o=a:=by
 rcases gq.1 h with h|h
 .rcases gq.1 h with h|h
  .exact .inl ef
  .exact .inr cU
 .exact .inl ef
def amv{ag:Type}{s:E ag}{z:Nat}{o:ag}(h:o∈s.take z++s.drop (z+1)):o∈s:=by
 rcases gq.1 h with h|h
 .exact tr h
 .exact uv h
def Z4{ag:Type}(s:E ag)(z:Nat):(s.take z++s.drop (z+1)).Sublist s:=by
 conv=>rhs;rw[<-tn z s]
 refine Od ?_ _;rw[<-ri];exact atE _ _
def kq{ag:Type}(f:ag->Nat)(s:E ag)(g:Nat):Prop:=∃Y:dn f s g<F s,f (s[dn f s g])=g
instance{ag:Type}(f:ag->Nat)(s:E ag)(g:Nat):Decidable (kq f s g):=by unfold kq;exact inferInstance
theorem iy.Gg{ag:Type}{f:ag->Nat}{s:E ag}(h:iy f s){a:ag}(aR:¬kq f s (f a)):iy f (s.take (dn f s (f a))++[a]++s.drop (dn f s (f a))):=by
 have Y:=s7 h<|f a;have k:=rW (f:=f) s<|f a;refine h.kF k cU λj ba b=>?_
 have g:=Y j b;have l:¬f (s[j])<f a:=λC=>by have:=g.1 C;omega
 have m:f (s[j])≠f a:=by
  intro C;apply aR;rcases la (dn f s (f a)) j with d|d
  .exfalso;have o:=h.jT d b;have i:=Y _ (dd:dn f s (f a)<F s);have p:¬f (s[dn f s (f a)])<f a:=λC=>by have:=i.1 C;omega
   omega
  .have:j=dn f s (f a):=by omega
   subst this;exact⟨b,C⟩
 omega
theorem F0{i:Int->X (Int⊕(Unit⊕Int))}{Q:Nat}(z:Nat->Bool)(G:∀g,g<Q->z g=Z->i (g:Int)=B (.inl ((g+1:Nat):Int)))(a:∀g,g<Q->z g=T->i (g:Int)=B (.inr (.inr (g:Int))))(b:i (Q:Int)=B (.inr (.inl ()))):
  (dq i 0=B (.inl ())/\∀g,g<Q->z g=Z)\/∃g,g<Q/\z g=T/\(∀j,j<g->z j=Z)/\dq i 0=B (.inr (g:Int)):=by
 rcases amk (i:=i) (λg=>(g:Int)) Q (λg=> !z g) (λg=>.inr (g:Int)) (λg af Y=>G g af cU) (λg af Y=>a g af cU) b with⟨g,af,Y,l,d⟩|⟨k,d⟩
 .exact .inr ef
 .exact .inl cU
theorem Me{ag:Type}(s:E ag)(gJ:ag->Bool){i:Int×Int×E ag->X ((Int×Int×E ag)⊕(Int×E ag))}(cN:F s<1099511627776)
  (G:∀(j m:Nat) (L:E ag) (aw:m<F L),j<m->F L=F s->i ((j:Int),(m:Int),L)=B (.inl (if gJ L[m]then(((j+1:Nat):Int),((m+1:Nat):Int),L.set j L[m])else((j:Int),((m+1:Nat):Int),L))))
  (y:∀(j:Nat) (L:E ag),F L=F s->i ((j:Int),(F L:Int),L)=B (.inr ((j:Int),L))){u:Nat}(hi:u<F s)(af:gJ s[u]=Z)(C:∀g (af:g<u),gJ (s[g]'I)=T):
  ∃(j:Nat) (L:E ag),dq i ((u:Int),((u+1:Nat):Int),s)=B ((j:Int),L)/\F L=F s/\j<=F L/\L.take j=s.filter gJ:=by
 have N:∀A,A<=u->(s.take A).filter gJ=s.take A:=by intro A Q;rw[HL];intro a d;obtain⟨g,af,rfl⟩:=mf.1 d;rw[hO]at af;rw[uw];exact C g I
 have:=hk (i:=i) (ah:=λr=>∃j:Nat,r.1=(j:Int)/\F r.2=F s/\j<=F r.2/\r.2.take j=s.filter gJ)
  (λq=>∃(j m:Nat) (L:E ag),q=((j:Int),(m:Int),L)/\j<m/\m<=F s/\F L=F s/\L.take j=(s.take m).filter gJ/\L.drop m=s.drop m) (λq=>(F s-q.2.1).toNat) (λq aj=>?_) (q:=((u:Int),((u+1:Nat):Int),s)) ⟨u,u+1,s,rfl,I,I,rfl,?_,rfl⟩
 .obtain⟨⟨t,L⟩,aG,j,rfl,aD,aQ,aH⟩:=this;exact ef
 .obtain⟨j,m,L,rfl,x,P,b,k,o⟩:=aj;by_cases aw:m<F L
  .have z:L[m]=s[m]'I:=by have:=congrArg (λs=>s[0]?) o;simp only[j2,jO]at this;rw[e6 aw,e6 I]at this;exact mg this
   refine de.p1 (G j m L aw x b)<|.inl ⟨_,rfl,?_⟩;have p:(s.take<|m+1).filter gJ=(s.take m).filter gJ++(if gJ (s[m]'I)then[s[m]'I]else[]):=by rw[ta (e6 I),xK];congr 1;cases h:gJ (s[m]'I)<;>simp[h]
   rw[z];have D:L.drop (m+1)=s.drop (m+1):=by rw[<-ri,<-ri,o]
   split
   .rename_i l;refine⟨⟨j+1,m+1,_,rfl,I,I,by simpa using b,?_,?_⟩,ew⟩
    .rw[p,dE l,<-k,Ou fv,Ov,Ow fv];simp
    .rwa[Ox I]
   next l=>refine⟨⟨j,m+1,_,rfl,I,I,b,?_,D⟩,ew⟩;rw[p,dA l,<-k,nb]
  .have K:m=F L:=by omega
   subst K;refine de.p1 (y j L b)<|.inr ⟨_,rfl,j,rfl,b,ew,?_⟩;simp only;rw[k,b,iV]
 .rw[ta (e6 hi),xK,N u (jq _)];simp[af]
def ahR(n:Nat)(q:eh):Prop:=kj n q.c3/\k3 q.si.ff/\g6 q.si.dx/\fy q.ge
def jJ(n:Nat)(s:E eh):Prop:=(∀q∈s,ahR n q)/\iy (λq=>fC q.c3) s
def jJ.len{n:Nat}{s:E eh}(h:jJ n s):F s<=n:=h.2.len λq aj=>(h.1 q aj).1.lt
def Hm{a:Int}(h:fy a):wB a=B T:=by unfold wB;rw[dz h.1,dz h.2];rfl
def Hg{i:e2}(h:0<=i.ff)(aF:i.ff<=65535):rp i=B T:=by unfold rp;rw[Gw h aF];rfl
section
variable{n:Nat}(cR:n<=4){s:E eh}
include cR
theorem zs(h:jJ n s):tF s=B T:=by
 have aP:=h.len;unfold tF;rw[dr I];simp only[dm];have:dq (KW s) 0=B (.inl ()):=by
  refine nr (Q:=F s) (λg af=>?_) ?_
  .unfold KW;have aj:=h.1 _ (fi af);rw[dO,dz af,et af];simp only[c6,cI];rw[rb cR aj.1];simp only[c6,cI];rw[Hg aj.2.1.1 (by have:=aj.2.1.2;omega)];simp only[c6,cI];rw[hl (by have:=aj.2.1.2;omega),Hm aj.2.2.2];simp only[c6,dm,cI];rw[e7 I];by_cases dI:g=0
   .subst dI;rfl
   .rw[dz (dd:(g:Int)>0),(dd:(g:Int)-1=((g-1:Nat):Int)),mW I,et (dd:g-1<F s)];simp only[c6,cI];rw[tZ cR (h.1 _ (fi _)).1 aj.1];simp only[cI];have:=h.2.jT (j:=g-1) (m:=g) I af;rw[dr Lb];rfl
  .unfold KW;rw[dO,dr I];rfl
 rw[this];rfl
theorem aeM(h:jJ n s){K:Int}(ax:fy K){j:c0}(hi:kj n j):de (Eu s K j) λr=>r.2=T->k3 r.1.ff/\g6 r.1.dx:=by
 have aP:=h.len;unfold Eu;rw[zs cR h,Hm ax];simp only[c6,cI];refine de.bind (u:=λa=>a=.inl ()\/∃i,a=.inr (i,T)/\k3 i.ff/\g6 i.dx) (hk (λq=>∃g:Nat,q=(g:Int)/\g<=F s) (λq=>(F s-q).toNat) (λq aj=>?_) ef) λa d=>?_
 .obtain⟨g,rfl,af⟩:=aj;unfold WI;by_cases b:g<F s
  .rw[dO,dz b,et b,e7 I];simp only[c6,cI,ep,dg];have aj:=h.1 _ (fi b);refine⟨λ_=>⟨λ_=>.inr ⟨_,rfl,.inr ⟨_,rfl,aj.2.1,aj.2.2.1⟩⟩,λ_=>.inl ⟨_,rfl,⟨_,rfl,I⟩,I⟩⟩,λ_=>.inl ⟨_,rfl,⟨_,rfl,I⟩,I⟩⟩
  .rw[dO,dr b];simp only[dm,dg];exact .inr ⟨_,rfl,.inl rfl⟩
 .rcases d with rfl|⟨i,rfl,G⟩
  .simp only[xL,dg];intro C;cases C
  .simp only[HN,dg];exact λ_=>G
omit cR in
def Hf(t l:Int):de (wy t l) λ_=>True:=by unfold wy;simp only[ep,dg,implies_true,and_self]
omit cR in
def aez(t l:e2):de (En t l) λ_=>True:=by unfold En Eo;simp only[ep,dg,sJ,implies_true,and_self,true_and];exact λ_=>(Hf _ _).mono λ_ _=>by first|trivial|simp
omit cR in
def arQ(t l:e2)(c:Bool):de (Ky t l c) λ_=>True:=by
 have G:∀i,de (rp i) λ_=>True:=λi=>by unfold rp oM;simp only[sJ,ep,dg,implies_true,and_self]
 unfold Ky;refine(G t).bind λv _=>ep.2 ⟨λ_=>ep.2 ⟨λ_=>dg.2 trivial,λ_=>ep.2 ⟨λ_=>(G l).bind λv _=>ep.2 ⟨λ_=>(aez t l).bind λ_ _=>dg.2 trivial,λ_=>dg.2 trivial⟩,λ_=>dg.2 trivial⟩⟩,λ_=>dg.2 trivial⟩
def ar5(h:jJ n s){K:Int}(ax:fy K){a:c0}(hi:kj n a)(i:e2):de (KV s K a i) λ_=>True:=by
 unfold KV;rw[zs cR h,rb cR hi,Hm ax];simp only[c6,cI];refine(aeM cR h ax hi).bind λr _=>?_
 exact(arQ _ _ _).bind λ_ _=>dg.2 trivial
theorem ar7(h:jJ n s){a:c0}(hi:kj n a):KX s a=B ((dn (λq=>fC q.c3) s (fC a):Int),decide (∃Y:dn (λq=>fC q.c3) s (fC a)<F s,fC (s[dn (λq=>fC q.c3) s (fC a)]).c3=fC a)):=by
 have aP:=h.len;unfold KX P0;have i:∀g (af:g<F s),Ex s[g] a=B (iE (fC s[g].c3)<|fC a):=λg af=>by unfold Ex;rw[tZ cR (h.1 _ cU).1 hi];rfl
 have Y:=s7 h.2<|fC a;have l:=rW (f:=λq:eh=>fC q.c3) s<|fC a;rw[L1 (F s) (dn (λq=>fC q.c3) s<|fC a) l (λj m k aw=>?_) λj=>?_]
 .simp only[cI];by_cases ap:dn (λq=>fC q.c3) s (fC a)<F s
  .rw[dO,dz ap,et ap,c6,cI,i _ ap,cI,L8];simp[ap]
  .rw[dO,dr ap,dm];simp[ap]
 .unfold P1;have b:(j+m)/2<F s:=I;simp only;rw[dO,dz k,M0 I,et b,c6,cI,i _ b,cI,e7 I];have:=Y _ b;by_cases d:(j+m)/2<dn (λq=>fC q.c3) s (fC a)
  .rw[dE d,dz (pd.2 (this.2 d))];rfl
  .rw[dA d,dr (λC=>d<|this.1<|pd.1 C)];rfl
 .unfold P1;simp only;rw[dO,dr I];rfl
omit cR in
theorem xo{K:Int}(ax:fy K)(i:Nat)(b:i<1000):fy (if 1099511627776<U W (K+(i:Int))then 1099511627776 else U W (K+(i:Int))):=by have⟨G,a⟩:=ax;rw[fx I I];unfold fy;split<;>omega
theorem ar6(h:jJ n s){K:Int}(ax:fy K){a:c0}(hi:kj n a){i:e2}(g:k3 i.ff)(aj:g6 i.dx):de (Ev s K a i) λr=>r.2=0/\jJ n r.1:=by
 have aP:=h.len;have G:=g.1;have ad:=g.2;have P:tE s=B s:=by unfold tE;simp only[cQ.cL,pt];rw[yO I I];rfl
 have u:=xo ax 20 I;have Y:=s7 h.2<|fC a;have A:=rW (f:=λq:eh=>fC q.c3) s<|fC a;unfold Ev;rw[zs cR h,rb cR hi,Hg G I,Hm ax,ar7 cR h hi,P,hl (dd:¬i.ff=65535)];simp only[c6,dm,cI];generalize ah:dn (λq:eh=>fC q.c3) s (fC a)=z at*;by_cases m:∃Y:z<F s,fC (s[z]).c3=fC a
 .have⟨d,x⟩:=m;rw[dz ⟨d,x⟩,c6,et d];have y:=h.1 _ (fi d);have l:∀v:e2,k3 v.ff->g6 v.dx->de (Ew s ((z:Int),T) a K v) λr=>r.2=0/\jJ n r.1:=by
   intro v aa ab;unfold Ew;simp only[cQ.cL,et d,gz,gx,e6 d,cI,dg,true_and];refine⟨λq aj=>?_,h.2.put d x.symm⟩;rcases xH aj with b|rfl
   .exact h.1 q b
   .exact⟨hi,aa,ab,u⟩
  simp only[cI,ep];refine⟨λ_=>?_,λ_=>l i g aj⟩;unfold PT;simp only[sJ];refine(aez _ _).mono λc _=>ep.2 ⟨λ_=>dg.2<|l i g aj,λ_=>dg.2<|l _ y.2.1 y.2.2.1⟩
 .rw[dr m,dm,dr I,dm,Gf A I I];simp only[cI];have N:∀an:eh,F (s.take z++[an]++s.drop z)=F s+1:=λan=>fv
  have S:∀an o:eh,(s.take z++[an]++s.drop z).set z o=s.take z++[o]++s.drop z:=λan o=>by rw[iu,iu,zI,zI];exact Hi _ _ _ _ fv
  simp only[cQ.cL];rw[et (by rw[N];omega)];simp only[cI,gz,gx];rw[e6 (by rw[N];omega)];simp only[cI,dg,true_and];rw[S];refine⟨λq aj=>?_,h.2.kF A (λj Q=>?_) λj ba p=>?_⟩
  .rcases gq.1 aj with b|b
   .rcases gq.1 b with k|k
    .exact h.1 q<|tr k
    .rw[gO.1 k];exact⟨hi,g,‹g6 i.dx›,u⟩
   .exact h.1 q<|uv b
  .exact(Y j I).2 Q
  .have b:=Y j p;have k:¬fC (s[j]).c3<fC a:=λC=>by have:=b.1 C;omega
   have ae:fC (s[j]).c3≠fC a:=by
    intro C;apply m;rcases la z j with t|t
    .exfalso;have af:=h.2.jT t p;have D:=Y z I;have ag:¬fC (s[z]).c3<fC a:=λC=>by have:=D.1 C;omega
     omega
    .have:j=z:=by omega
     subst this;exact⟨p,C⟩
   show fC a<fC (s[j]).c3;omega
theorem ar4(h:jJ n s){K:Int}(ax:fy K):KS s K=B (s.filter λq=>decide (K<q.ge)):=by
 have aP:=h.len;have l:tE s=B s:=by unfold tE;simp only[cQ.cL,pt];rw[yO I I];try rfl
 have G:∀q:eh,Es q K=B (!decide (K<q.ge)):=λq=>by unfold Es;congr 1;rw[<-decide_not];exact decide_eq_decide.2 I
 unfold KS;rw[zs cR h,Hm ax,l];simp only[c6,cI];unfold Qk;have t:∀g,g<F s->(if af:g<F s then !decide (K<s[g].ge)else Z)=Z->yp s K (g:Int)=B (.inl ((g+1:Nat):Int)):=λg af Y=>by unfold yp;rw[dif_pos af]at Y;rw[dO,dz af,et af,c6,cI,G,cI,Y,dm,e7 I]
 have u:∀g,g<F s->(if af:g<F s then !decide (K<s[g].ge)else Z)=T->yp s K (g:Int)=B (.inr<|.inr (g:Int)):=λg af Y=>by unfold yp;rw[dif_pos af]at Y;rw[dO,dz af,et af,c6,cI,G,cI,Y,c6]
 have x:yp s K (F s:Int)=B (.inr<|.inl ()):=by unfold yp;rw[dO,dr I];rfl
 have o:∀(j m:Nat) (L:E eh) (aw:m<F L),j<m->F L=F s->Et K ((j:Int),(m:Int),L)=B (.inl (if decide (K<L[m].ge)then(((j+1:Nat):Int),((m+1:Nat):Int),L.set j L[m])else((j:Int),((m+1:Nat):Int),L))):=λj m L aw z d=>by
  unfold Et KU;simp only;rw[dO,dz aw,c6];simp only[cQ.cL,et aw,gz,gx,e6 aw,cI,G];by_cases a:K<L[m].ge
  .rw[dz a,dE rfl,xE,dm,et I,cI,e6 I,cI,e7 I,e7 I]
  .rw[dr a,dA dh,v_,c6,e7 I]
 have p:∀(j:Nat) (L:E eh),F L=F s->Et K ((j:Int),(F L:Int),L)=B (.inr ((j:Int),L)):=λj L d=>by unfold Et;simp only;rw[dO,dr I];rfl
 rcases F0 _ t u x with⟨b,i⟩|⟨g,af,A,k,b⟩
 .rw[b];simp only[cI,xL,KT,beq_self_eq_true,c6];congr 1;refine(HL.2 λq aj=>?_).symm;obtain⟨g,af,rfl⟩:=mf.1 aj;have:=i g af;rw[dif_pos af]at this;simpa using this
 .rw[b];simp only[cI,HN];rw[hl I,dm,e7 I];have⟨j,L,aG,aD,aQ,aH⟩:=Me s (λq=>decide (K<q.ge)) I o p af cU (λy a=>by have:=k y a;rw[dif_pos I]at this;simpa using this);rw[aG];simp only[cI,gz];rw[dz dd,c6,dz ⟨I,I,FQ aQ⟩,c6,FR _ _ _ _ aQ,aH];rfl
omit cR in
def jJ.filter(h:jJ n s)(z:eh->Bool):jJ n (s.filter z):=⟨λq aj=>h.1 q (oE.1 aj).1,h.2.sub Oy⟩
end
def Lo(n:Nat)(r:eq):Prop:=kj n r.c3/\g6 r.dx/\1<=r.e3/\r.e3<=32/\(r.Qt=0\/∃g,g<n/\r.Qt=fF g)/\fy r.Next/\1<=r.iG/\r.iG<=3
def mQ(r:eq):Nat:=fC r.c3
def j8(n:Nat)(s:E eq):Prop:=(∀q∈s,Lo n q)/\iy mQ s
def j8.len{n:Nat}{s:E eq}(h:j8 n s):F s<=n:=h.2.len λq aj=>(h.1 q aj).1.lt
def TW{a:Int}(h:fy a):Aq a=B T:=by unfold Aq;rw[dz h.1,dz h.2];rfl
def aei{s:E eq}(h:F s<=1000):yj s=B s:=by unfold yj;simp only[cQ.cL,pt];rw[yO I I];try rfl
section
variable{n:Nat}(cR:n<=4){s:E eq}
include cR
theorem NF(h:j8 n s):x4 s=B T:=by
 have aP:=h.len;unfold x4;rw[dr I];simp only[dm];have:dq (JP s) 0=B (.inl ()):=by
  refine nr (Q:=F s) (λg af=>?_) ?_
  .unfold JP;have⟨a,d,i,k,l,b,o,p⟩:=h.1 _ (fi af);rw[dO,dz af,et af,c6,cI,rb cR a,cI,c6,dr I,dm,dr I,dm,TW b,cI,c6,dr I,dm,dr I,dm,e7 I];by_cases dI:g=0
   .subst dI;rfl
   .rw[dz (dd:(g:Int)>0),(dd:(g:Int)-1=((g-1:Nat):Int)),mW I,et (dd:g-1<F s),c6,cI,tZ cR (h.1 _ (fi _)).1 a,cI];have:=h.2.jT (j:=g-1) (m:=g) I af;unfold mQ at this;rw[dr Lb];rfl
  .unfold JP;rw[dO,dr I];rfl
 rw[this];rfl
theorem arj(h:j8 n s){a:c0}(ax:kj n a):KE s a=B ((dn mQ s (fC a):Int),decide (kq mQ s (fC a))):=by
 unfold KE;have aP:=h.len;have i:∀g (af:g<F s),DV s[g] a=B (iE (mQ s[g])<|fC a):=λg af=>by unfold DV;rw[tZ cR (h.1 _ cU).1 ax];rfl
 have Y:=s7 h.2<|fC a;have l:=rW (f:=mQ) s<|fC a;rw[L1 (F s) (dn mQ s (fC a)) l (λj m k aw=>?_) λj=>?_]
 .simp only[cI];unfold kq;by_cases ap:dn mQ s (fC a)<F s
  .rw[dO,dz ap,et ap,c6,cI,i _ ap,cI,L8];simp[ap]
  .rw[dO,dr ap,dm];simp[ap]
 .unfold PZ;have b:(j+m)/2<F s:=I;simp only;rw[dO,dz k,M0 I,et b,c6,cI,i _ b,cI,e7 I];have:=Y _ b;by_cases d:(j+m)/2<dn mQ s (fC a)
  .rw[dE d,dz (pd.2 (this.2 d))];rfl
  .rw[dA d,dr (λC=>d<|this.1<|pd.1 C)];rfl
 .unfold PZ;simp only;rw[dO,dr I];rfl
def aej(h:j8 n s){a:c0}(ax:kj n a):DU s a=B ((dn mQ s (fC a):Int),decide (kq mQ s (fC a))):=by unfold DU;rw[arj cR h ax];rfl
theorem aeh(h:j8 n s){K:Int}(j:fy K){a:c0}(ax:kj n a){seq hops fr:Int}(aj:g6 seq)(G:1<=hops)(m:hops<=32)(p:fr=0\/∃g,g<n/\fr=fF g):de (x3 s K a seq hops fr) λr=>r.2.2=0/\j8 n r.1:=by
 have aP:=h.len;have l:=rW (f:=mQ) s<|fC a;have i:=xo j 3 I;have k:∀v,fy v->Lo n ⟨a,seq,hops,fr,v,3⟩:=λv ab=>⟨ax,aj,G,m,p,ab,ew,ew⟩
 unfold x3 Ar;rw[NF cR h,rb cR ax,TW j,aej cR h ax,aei I];simp only[c6,cI];rw[dr I,dm,dr I,dm];by_cases ap:kq mQ s (fC a)
 .rw[dz ap,c6];have⟨Y,o⟩:=ap;rw[et Y];simp only[cI,ep,dg,sJ];refine⟨λ_=>cU,λ_=>(Hf _ _).mono λv _=>⟨λ_=>cU,λ_=>?_⟩⟩;simp only[cQ.cL,et Y,dg,gz,gx,e6 Y,true_and];refine⟨λq d=>?_,h.2.put Y o.symm⟩;rcases xH d with b|rfl
  .exact h.1 q b
  .exact k _ i
 .rw[dr ap,dm,dr I,dm,Gf l I I];simp only[cI,cQ.cL];rw[et cU,cI,gz,gx,e6 cU,cI,dg,arS l];refine⟨rfl,λq d=>?_,h.2.Gg (a:=⟨a,seq,hops,fr,_,3⟩) ap⟩;rcases abA d with b|rfl
  .exact h.1 q b
  .exact k _ i
theorem arl(h:j8 n s){a:c0}(ax:kj n a){i:e2}(b:k3 i.ff):de (JN s a i) λr=>j8 n r:=by
 have aP:=h.len;have d:=b.1;have g:=b.2;unfold JN;rw[NF cR h,rb cR ax,aej cR h ax,aei I,Hg d I,hl dd];simp only[c6,dm,cI];by_cases ap:kq mQ s (fC a)
 .rw[dz ap,c6];have⟨Y,j⟩:=ap;rw[et Y,cI];refine(Hf _ _).bind λv _=>ep.2 ⟨λ_=>dg.2 h,λ_=>?_⟩
  rw[Z7 _ Y I];exact dg.2 ⟨λq aj=>h.1 q<|amv aj,h.2.sub<|Z4 _ _⟩
 .rw[dr ap,dm];exact dg.2 h
theorem ark(h:j8 n s){K:Int}(A:fy K):de (JL s K) λr=>r.2.2=0/\j8 n r.2.1/\(∀q∈r.1,q∈s)/\F r.1<=F s:=by
 have aP:=h.len;have ah:=xo A 3 I;unfold JL;rw[NF cR h,TW A];simp only[c6,cI,sJ,dg,true_and];refine(hk (ah:=λl=>j8 n l.1/\(∀q∈l.2,q∈s)/\F l.2<=F s) (λq=>∃g:Nat,q.2.1=(g:Int)/\g<=F s/\(∀r∈q.1,Lo n r)/\(q.1.map mQ).Sublist ((s.take g).map mQ)/\(∀r∈q.2.2,r∈s)/\F q.2.2<=g) (λq=>((F s:Int)-q.2.1).toNat) (λq aj=>?_) ef).mono λl ai=>ai
 have⟨t,j,i⟩:=q;have⟨g,z,af,k,b,m,D⟩:=aj;simp only at z k b m D;subst z;have ak:F t<=g:=by have:=b.length_le;simp only[fT,hO]at this;omega
 unfold Wk;by_cases d:g<F s
 .have⟨N,P,Q,S,aa,ab,al,ad⟩:=h.1 _ (fi d);simp only;rw[dO,dz d,c6,et d,cI];have y:∀(e:E eq) (p o:Int),fy p->0<=o->o<=3->(∀r∈e,r∈s)->F e<=g+1->de (DT (t,(g:Int),i) s[g] (e,p,o)) λa=>(∃ao,a=.inl ao/\(∃g:Nat,ao.2.1=(g:Int)/\g<=F s/\(∀r∈ao.1,Lo n r)/\(ao.1.map mQ).Sublist ((s.take g).map mQ)/\(∀r∈ao.2.2,r∈s)/\F ao.2.2<=g)/\((F s:Int)-ao.2.1).toNat<((F s:Int)-(g:Int)).toNat)\/∃r,a=.inr r/\j8 n r.1/\(∀q∈r.2,q∈s)/\F r.2<=F s:=by
   intro e p o ae am ag u x;have C:(s.take<|g+1).map mQ=(s.take g).map mQ++[mQ s[g]]:=by rw[ta (e6 d),hN];rfl
   unfold DT JM;simp only[ep,dg,sJ];rw[e7 I];refine⟨λcN=>?_,λ_=>.inl ⟨_,rfl,⟨g+1,rfl,I,k,?_,u,x⟩,ew⟩⟩
   .simp only[cQ.cL];rw[i8 fv fv,dg];refine .inl ⟨_,rfl,⟨g+1,rfl,I,λr ay=>?_,?_,u,x⟩,ew⟩
    .rcases gq.1 ay with ay|ay
     .exact k r ay
     .rw[gO.1 ay];exact⟨N,P,Q,S,aa,ae,by simp at cN;simp only;omega,ag⟩
    .rw[C,hN];exact b.append<|xM _
   .rw[C];exact b.trans<|Oz _ _
  simp only[ep];refine⟨λ_=>?_,λ_=>y i _ _ ab I ad m I⟩;simp only[cQ.cL];rw[i8 fv fv,cI];unfold Ar;rw[cI,show U W (s[g].iG-1)=s[g].iG-1 from fx I I];refine y _ _ _ ah I I (λr ay=>?_) fv;rcases gq.1 ay with ay|ay
  .exact m r ay
  .rw[gO.1 ay];exact fi _
 .simp only;rw[dO,dr d,dm,dg];refine .inr ⟨_,rfl,⟨k,?_⟩,m,ew⟩;have:((t.map mQ).Pairwise (·<·)):=HJ b (by have:=h.2.sub<|Cq g s;exact sf.2 this)
  exact sf.1 this
end
def wK(n j:Nat)(r:dL):Prop:=kj n r.c3/\fC r.c3≠j/\hQ n j r.eb/\k3 r.mF.ff/\g6 r.mF.dx/\fy r.ge
def kg(r:dL):Nat:=8*fC r.c3+hX r.eb
def kk(n j:Nat)(s:E dL):Prop:=(∀r∈s,wK n j r)/\iy kg s
def ZT{m g:Nat}(aw:m<4)(af:g<4):sn (fF m) (fF g)=B (iE m g):=by refine wW (z:=λm g=>sn (fF m) (fF g)=B (iE m g)) (λj hi=>?_) aw af;refine kB (z:=λj=>sn (fF j) (fF 0)=B (iE j 0)/\sn (fF j) (fF 1)=B (iE j 1)/\sn (fF j) (fF 2)=B (iE j 2)/\sn (fF j) (fF 3)=B (iE j 3)) ?_ ?_ ?_ ?_ hi<;>exact⟨J,J,J,J⟩
def RV(t l:Nat):(t<l/\iE t l= -1)\/(t=l/\iE t l=0)\/(l<t/\iE t l=1):=by
 unfold iE;rcases Cr t l with h|h|h
 .exact .inl dd
 .exact .inr dd
 .exact .inr dd
def aqm(t l c i:Nat):wc [iE t l,iE c i]=B (if iE t l=0 then iE c i else iE t l):=by rcases RV t l with⟨_,h⟩|⟨_,h⟩|⟨_,h⟩<;>rcases RV c i with⟨_,g⟩|⟨_,g⟩|⟨_,g⟩<;>rw[h,g]<;>kernel_rfl
def wK.key{n j:Nat}{r:dL}(cR:n<=4)(h:wK n j r):kg r<8*n:=by have G:=h.1.lt;have a:=h.2.2.1.lt;unfold kg;omega
def kk.len{n j:Nat}{s:E dL}(cR:n<=4)(h:kk n j s):F s<=32:=by
 have:=h.2.len λq aj=>(h.1 q aj).key cR
 omega
section
variable{n j:Nat}(cR:n<=4){s:E dL}
include cR
theorem aes{t l:dL}(a:wK n j t)(b:wK n j l):uV t l=B (iE (kg t) (kg l)):=by
 have G:=a.2.2.1.lt;have m:=b.2.2.1.lt;unfold uV;rw[tZ cR a.1 b.1,cI,a.2.2.1.lS,b.2.2.1.lS,ZT I I,cI,aqm,cI];congr 1;unfold kg;rw[a.2.2.1.lS,b.2.2.1.lS,rR,rR]at*;rcases RV (fC t.c3) (fC l.c3)with⟨d,g⟩|⟨d,g⟩|⟨d,g⟩<;>rw[g]
 .rw[dA I];unfold iE;rw[dE I]
 .rw[dE rfl,d];unfold iE;by_cases i:hX t.eb<hX l.eb
  .rw[dE i,dE I]
  .by_cases k:hX t.eb=hX l.eb
   .rw[dA i,dE k,dA I,dE I]
   .rw[dA i,dA k,dA I,dA I]
 .rw[dA I];unfold iE;rw[dA I,dA I]
omit cR in
def zq{a:Int}(h:fy a):tC a=B T:=by unfold tC;rw[dz h.1,dz h.2];rfl
omit cR in
theorem aeq{i:e2}(h:k3 i.ff):Ej i=B T:=by have G:=h.1;have a:=h.2;unfold Ej;rw[Hg G I,cI,c6];congr 1;simp only[bne,hl (dd:¬i.ff=65535)];rfl
omit cR in
theorem T2(h:F s<=1000):wz s=B s:=by unfold wz;simp only[cQ.cL,pt];rw[yO I I];try rfl
theorem B7(h:kk n j s):uU s=B T:=by
 have aP:=h.len cR;unfold uU;rw[dr I];simp only[dm];have:dq (Km s) 0=B (.inl ()):=by
  refine nr (Q:=F s) (λg af=>?_) ?_
  .unfold Km;have cK:=h.1 _ (fi af);have⟨a,k,b,d,l,i⟩:=cK;rw[dO,dz af,et af,c6,cI,rb cR a,cI,c6,hl b.zd,dm,aeq d,cI,c6,zq i,cI,c6,e7 I];by_cases dI:g=0
   .subst dI;rfl
   .rw[dz (dd:(g:Int)>0),(dd:(g:Int)-1=((g-1:Nat):Int)),mW I,et (dd:g-1<F s),c6,cI,aes cR (h.1 _ (fi _)) (h.1 _ (fi af)),cI];have:=h.2.jT (j:=g-1) (m:=g) I af;rw[dr Lb];rfl
  .unfold Km;rw[dO,dr I];rfl
 rw[this];rfl
theorem arv(h:kk n j s){a:dL}(ax:wK n j a):yf s a=B ((dn kg s (kg a):Int),decide (kq kg s (kg a))):=by
 unfold yf;have aP:=h.len cR;have i:∀g (af:g<F s),uV s[g] a=B (iE (kg s[g])<|kg a):=λg af=>by exact aes cR (h.1 _ cU) ax
 have Y:=s7 h.2<|kg a;have m:=rW (f:=kg) s<|kg a;rw[L1 (F s) (dn kg s (kg a)) m (λt l k aw=>?_) λt=>?_]
 .simp only[cI];unfold kq;by_cases ap:dn kg s (kg a)<F s
  .rw[dO,dz ap,et ap,c6,cI,i _ ap,cI,L8];simp[ap]
  .rw[dO,dr ap,dm];simp[ap]
 .unfold Ep;have b:(t+l)/2<F s:=I;simp only;rw[dO,dz k,M0 I,et b,c6,cI,i _ b,cI,e7 I];have:=Y _ b;by_cases d:(t+l)/2<dn kg s (kg a)
  .rw[dE d,dz (pd.2 (this.2 d))];rfl
  .rw[dA d,dr (λC=>d<|this.1<|pd.1 C)];rfl
 .unfold Ep;simp only;rw[dO,dr I];rfl
theorem arz(h:kk n j s){K:Int}(t:fy K){a:c0}(ax:kj n a)(x:fC a≠j){b:Int}(l:hQ n j b){i:e2}(z:0<=i.ff)(A:i.ff<=65535)(aj:g6 i.dx):de (Kf s K a b i) λr=>r.2=0/\kk n j r.1:=by
 have aP:=h.len cR;have k:=xo t 10 I;generalize ab:(if 1099511627776<U W (K+((10:Nat):Int))then(1099511627776:Int)else U W (K+((10:Nat):Int)))=v at k;have C:wx K 10=B v:=by unfold wx;exact congrArg B ab
 have N:wK n j ⟨a,b,⟨i.dx,0⟩,v⟩:=⟨ax,x,l,(dd:(0:Int)<=0/\(0:Int)<65535),aj,k⟩;have y:yf s ⟨a,b,i,v⟩=B ((dn kg s (kg ⟨a,b,i,v⟩):Int),decide (kq kg s<|kg ⟨a,b,i,v⟩)):=by
  have:=arv cR h N;have e:∀g,uV g ⟨a,b,i,v⟩=uV g ⟨a,b,⟨i.dx,0⟩,v⟩:=λg=>rfl
  have aD:Ep s ⟨a,b,i,v⟩=Ep s ⟨a,b,⟨i.dx,0⟩,v⟩:=rfl;have aQ:yf s ⟨a,b,i,v⟩=yf s ⟨a,b,⟨i.dx,0⟩,v⟩:=rfl;rw[aQ,this];rfl
 have D:=rW (f:=kg) s<|kg ⟨a,b,i,v⟩;unfold Kf;rw[B7 cR h,rb cR ax,Hg z A,hl l.zd,zq t,C];simp only[c6,dm,cI];rw[y,T2 I];simp only[cI];by_cases p:i.ff=65535
 .rw[p,beq_self_eq_true,c6];by_cases ap:kq kg s (kg ⟨a,b,i,v⟩)
  .rw[dz ap,c6];have⟨Y,o⟩:=ap;rw[Z7 _ Y I];exact dg.2 ⟨rfl,λq aj=>h.1 q ef,h.2.sub<|Z4 _ _⟩
  .rw[dr ap,dm];exact dg.2 cU
 .have u:wK n j ⟨a,b,i,v⟩:=⟨ax,x,l,(dd:0<=i.ff/\i.ff<65535),aj,k⟩;rw[hl p,dm];by_cases ap:kq kg s (kg ⟨a,b,i,v⟩)
  .rw[dz ap,c6];have⟨Y,o⟩:=ap;simp only[cQ.cL,et Y,cI,gz,gx,e6 Y,x_,dg];refine⟨trivial,λq m=>?_,h.2.put Y o.symm⟩;rcases xH m with d|rfl
   .exact h.1 q d
   .exact u
  .rw[dr ap,dm,dr I,dm,Gf D I I];simp only[cI,x_,dg];refine⟨trivial,λq m=>?_,h.2.Gg ap⟩;rcases abA m with d|rfl
   .exact h.1 q d
   .exact u
omit cR in
def kk.filter(h:kk n j s)(z:dL->Bool):kk n j (s.filter z):=⟨λq aj=>h.1 q (oE.1 aj).1,h.2.sub Oy⟩
theorem ary(h:kk n j s)(e:Int):Ke s e=B (s.filter λr=> !(r.eb==e)):=by
 have aP:=h.len cR;have G:∀q:dL,Ec q e=B (!!(q.eb==e)):=λq=>by unfold Ec;rw[Bool.not_not]
 suffices x:Kv s e=B (s.filter λr=> !(r.eb==e)) by unfold Ke;rw[x];rfl
 unfold Kv;rw[B7 cR h,T2 I];simp only[c6,cI];unfold Qj;have p:∀g,g<F s->(if af:g<F s then !(!(s[g].eb==e))else Z)=Z->yo s e (g:Int)=B (.inl ((g+1:Nat):Int)):=λg af Y=>by unfold yo;rw[dif_pos af]at Y;rw[dO,dz af,et af,c6,cI,G,cI,Y,dm,e7 I]
 have t:∀g,g<F s->(if af:g<F s then !(!(s[g].eb==e))else Z)=T->yo s e (g:Int)=B (.inr<|.inr (g:Int)):=λg af Y=>by unfold yo;rw[dif_pos af]at Y;rw[dO,dz af,et af,c6,cI,G,cI,Y,c6]
 have u:yo s e (F s:Int)=B (.inr<|.inl ()):=by unfold yo;rw[dO,dr I];rfl
 have l:∀(j m:Nat) (L:E dL) (aw:m<F L),j<m->F L=F s->Em e ((j:Int),(m:Int),L)=B (.inl (if(!(L[m].eb==e))then(((j+1:Nat):Int),((m+1:Nat):Int),L.set j L[m])else((j:Int),((m+1:Nat):Int),L))):=λj m L aw z d=>by
  unfold Em Kx;simp only;rw[dO,dz aw,c6];simp only[cQ.cL,et aw,gz,gx,e6 aw,cI,G];cases b:(!(L[m].eb==e))
  .rw[dA dh,v_,c6,e7 I]
  .rw[dE rfl,xE,dm,et I,cI,e6 I,cI,e7 I,e7 I]
 have o:∀(j:Nat) (L:E dL),F L=F s->Em e ((j:Int),(F L:Int),L)=B (.inr ((j:Int),L)):=λj L d=>by unfold Em;simp only;rw[dO,dr I];rfl
 rcases F0 _ p t u with⟨a,i⟩|⟨g,af,A,k,a⟩
 .rw[a];simp only[cI,xL,Kw,beq_self_eq_true,c6];congr 1;refine(HL.2 λq aj=>?_).symm;obtain⟨g,af,rfl⟩:=mf.1 aj;have:=i g af;rw[dif_pos af]at this;simpa using this
 .rw[a];simp only[cI,HN];rw[hl I,dm,e7 I];have⟨j,L,aG,aD,aQ,aH⟩:=Me s (λq=>(!(q.eb==e))) I l o af cU (λy b=>by have:=k y b;rw[dif_pos I]at this;simpa using this);rw[aG];simp only[cI,gz];rw[dz dd,c6,dz ⟨I,I,FQ aQ⟩,c6,FR _ _ _ _ aQ,aH];rfl
theorem arx(h:kk n j s){K:Int}(y:fy K):Kd s K=B (s.filter λr=>decide (K<r.ge)):=by
 have aP:=h.len cR;have G:∀q:dL,Eb q K=B (!decide (K<q.ge)):=λq=>by unfold Eb;congr 1;rw[<-decide_not];exact decide_eq_decide.2 I
 suffices x:Ks s K=B (s.filter λr=>decide (K<r.ge)) by unfold Kd;rw[zq y,cI,c6,x];rfl
 unfold Ks;rw[B7 cR h,T2 I];simp only[c6,cI];unfold Qi;have p:∀g,g<F s->(if af:g<F s then !decide (K<s[g].ge)else Z)=Z->yn s K (g:Int)=B (.inl ((g+1:Nat):Int)):=λg af Y=>by unfold yn;rw[dif_pos af]at Y;rw[dO,dz af,et af,c6,cI,G,cI,Y,dm,e7 I]
 have t:∀g,g<F s->(if af:g<F s then !decide (K<s[g].ge)else Z)=T->yn s K (g:Int)=B (.inr<|.inr (g:Int)):=λg af Y=>by unfold yn;rw[dif_pos af]at Y;rw[dO,dz af,et af,c6,cI,G,cI,Y,c6]
 have u:yn s K (F s:Int)=B (.inr<|.inl ()):=by unfold yn;rw[dO,dr I];rfl
 have l:∀(j m:Nat) (L:E dL) (aw:m<F L),j<m->F L=F s->El K ((j:Int),(m:Int),L)=B (.inl (if decide (K<L[m].ge)then(((j+1:Nat):Int),((m+1:Nat):Int),L.set j L[m])else((j:Int),((m+1:Nat):Int),L))):=λj m L aw A d=>by
  unfold El Ku;simp only;rw[dO,dz aw,c6];simp only[cQ.cL,et aw,gz,gx,e6 aw,cI,G];cases b:decide (K<L[m].ge)
  .rw[dA dh,v_,c6,e7 I]
  .rw[dE rfl,xE,dm,et I,cI,e6 I,cI,e7 I,e7 I]
 have o:∀(j:Nat) (L:E dL),F L=F s->El K ((j:Int),(F L:Int),L)=B (.inr ((j:Int),L)):=λj L d=>by unfold El;simp only;rw[dO,dr I];rfl
 rcases F0 _ p t u with⟨a,i⟩|⟨g,af,C,k,a⟩
 .rw[a];simp only[cI,xL,Kt,beq_self_eq_true,c6];congr 1;refine(HL.2 λq aj=>?_).symm;obtain⟨g,af,rfl⟩:=mf.1 aj;have:=i g af;rw[dif_pos af]at this;simpa using this
 .rw[a];simp only[cI,HN];rw[hl I,dm,e7 I];have⟨j,L,aG,aD,aQ,aH⟩:=Me s (λq=>decide (K<q.ge)) I l o af cU (λz b=>by have:=k z b;rw[dif_pos I]at this;simpa using this);rw[aG];simp only[cI,gz];rw[dz dd,c6,dz ⟨I,I,FQ aQ⟩,c6,FR _ _ _ _ aQ,aH];rfl
end
def xi(j g:Nat):Nat:=if g<j then g else g-1
def Ue{j t l:Nat}(a:t≠j)(b:l≠j)(h:t<l):xi j t<xi j l:=by unfold xi;split<;>split<;>omega
def Hk{j g n:Nat}(af:g<n)(h:g≠j)(hi:j<n):xi j g<n-1:=by unfold xi;split<;>omega
def iy.al_{ag:Type}{f:ag->Nat}{s:E ag}{n j:Nat}(h:iy f s)(hi:j<n)(b:∀a∈s,f a<n/\f a≠j):F s<=n-1:=by refine iy.len (f:=λa=>xi j<|f a) (Vt (λg i h=>Ue (b _ g).2 (b _ i).2 h) h) λa d=>Hk (b a d).1 (b a d).2 hi
def kk.abg{n j:Nat}{s:E dL}(cR:n<=4)(hi:j<n)(h:kk n j s):F s<=9:=by
 have G:iy (λr:dL=>3*xi j (fC r.c3)+xi j (hX r.eb)) s:=by
  refine Vt (λ{t l} p q aF=>?_) h.2;have⟨i,g,a,_⟩:=h.1 t p;have⟨u,k,b,_⟩:=h.1 l q;have aG:hX t.eb≠j:=λC=>a.ox (by rw[a.lS,C])
  have aD:hX l.eb≠j:=λC=>b.ox (by rw[b.lS,C])
  have m:=Hk a.lt aG hi;have o:=Hk b.lt aD hi;have x:=a.lt;have y:=b.lt;unfold kg at aF;rcases Cr (fC t.c3) (fC l.c3)with d|d|d
  .have:=Ue (j:=j) g k d;simp only;omega
  .have:=Ue (j:=j) aG aD I;simp only[d];omega
  .omega
 refine mY (G.len (n:=9) λr ay=>?_) dd;have⟨i,g,a,_⟩:=h.1 r ay;have aG:hX r.eb≠j:=λC=>a.ox (by rw[a.lS,C])
 have m:=Hk a.lt aG hi;have o:=Hk i.lt g hi;omega
def rI{ag:Type}(ak:E ag)(a:ag)(eB:E ag):(ak++a::eB)[F ak]?=B a:=by rw[rc dd];simp
def FC{ag:Type}(ak:E ag)(o a:ag)(eB:E ag):(ak++o::a::eB)[F ak+1]?=B a:=by simp
def T9{ag:Type}(ak:E ag)(a an:ag)(eB:E ag):(ak++a::eB).set (F ak) an=ak++an::eB:=Hi _ _ _ _ rfl
def T_{ag:Type}(ak:E ag)(o a an:ag)(eB:E ag):(ak++o::a::eB).set (F ak+1) an=ak++o::an::eB:=by simp
def sG{ag:Type}(f:ag->Nat)(s:E ag):Prop:=s.Pairwise λt l=>f t<=f l
section
variable{u:ag->Prop}{i:Int×E ag->X ((Int×E ag)⊕E ag)}{j:Int×E ag->X ((Int×E ag)⊕E ag)}
 (G:∀(ak:E ag) (o a:ag) (eB:E ag),F ak+F eB<100000->u o->u a->i (((F ak+1:Nat):Int),ak++o::a::eB)=B (if f a<f o then .inl ((F ak:Int),ak++a::o::eB)else .inr<|ak++o::a::eB))(dI:∀L:E ag,i (0,L)=B (.inr L))
include G dI
theorem aa5:∀(A:Nat) (ak:E ag) (a:ag) (eB:E ag),F ak=A->F ak+F eB<100000->(∀an∈ak,u an)->u a->∃j,dq i ((F ak:Int),ak++a::eB)=B (j++eB)/\j.Perm (a::ak)/\(sG f ak->sG f j)
 |0,ak,a,eB,m,_,_,_=>by have:ak=[]:=List.eq_nil_of_length_eq_zero m;subst this;exact⟨[a],mr cU,HO _,λ_=>Lc⟩
 |A+1,ak,a,eB,m,cN,x,d=>by
  obtain⟨b,o,rfl⟩:∃b o,ak=b++[o]:=by
   rcases List.eq_nil_or_concat ak with h|⟨b,o,h⟩
   .subst h;simp at m
   .exact cU
  simp only[g9,lG]at m cN;have aj:=G b o a eB I cU d;have e:(b++[o])++a::eB=b++o::a::eB:=dh;rw[e,(wT:((F (b++[o]):Nat):Int)=((F b+1:Nat):Int))];by_cases q:f a<f o
  .rw[dE q]at aj;have⟨j,aC,au,aL⟩:=aa5 A b a (o::eB) I ef cU d;refine⟨j++[o],by rw[pX aj,aC];simp,?_,λk=>?_⟩
   .have:(a::(b++[o])).Perm ((a::b)++[o]):=by simp
    exact(au.append_right [o]).trans this.symm
   .have s:sG f b:=(py.1 k).1;refine py.2 ⟨aL s,dh,λt g l p=>?_⟩;rw[gO.1 p];rcases l3.1 (au.mem_iff.1 g)with rfl|g
    .omega
    .exact(py.1 k).2.2 t g o dh
  .rw[dA q]at aj;refine⟨b++[o,a],by rw[mr aj];simp,?_,λk=>?_⟩
   .rw[(wT:b++[o,a]=(b++[o])++[a])];exact List.perm_append_comm.trans dh
   .rw[(wT:b++[o,a]=(b++[o])++[a])];refine py.2 ⟨k,dh,λt g l p=>?_⟩;rw[gO.1 p];rcases gq.1 g with g|g
    .have:=(py.1 k).2.2 t g o dh;omega
    .rw[gO.1 g];omega
end
theorem Sy{ag:Type}{f:ag->Nat}{u:ag->Prop}{i j:Int×E ag->X ((Int×E ag)⊕E ag)}{L:E ag}
  (G:∀(ak:E ag) (o a:ag) (eB:E ag),F ak+F eB<100000->u o->u a->i (((F ak+1:Nat):Int),ak++o::a::eB)=B (if f a<f o then .inl ((F ak:Int),ak++a::o::eB)else .inr<|ak++o::a::eB))(dI:∀L:E ag,i (0,L)=B (.inr L))
  (q:∀(eH:E ag) (g:Nat),g<F L->j ((g:Int),eH)=(dq i ((g:Int),eH)).bind λl=>B<|.inl (((g+1:Nat):Int),l))(x:∀eH:E ag,j ((F L:Int),eH)=B (.inr eH))(cN:F L<100000)(d:∀an∈L,u an)(aR:L≠[]):∃b,dq j (1,L)=B b/\b.Perm L/\sG f b:=by
 have gen:∀(eB ak:E ag),F ak+F eB=F L->(∀an∈ak++eB,u an)->sG f ak->∃b,dq j ((F ak:Int),ak++eB)=B b/\b.Perm (ak++eB)/\sG f b:=by
  intro eB;induction eB with
  |nil=>intro ak k _ p;simp only[kv,jO]at k;rw[nb,k];exact⟨ak,mr cU,HO _,p⟩
  |cons a eB t=>
   intro ak k d p;simp only[l6]at k;have⟨m,aC,au,aL⟩:=aa5 G dI (F ak) ak a eB rfl I cU cU;have aj:=q (ak++a::eB) (F ak) I;rw[aC,cI]at aj;have s:F m=F ak+1:=by rw[au.length_eq];simp
   have N:∀an∈m++eB,u an:=λan N=>by
    rcases gq.1 N with N|N
    .rcases l3.1 (au.mem_iff.1 N)with rfl|N
     .exact d _ dh
     .exact d _ cU
    .exact d _ cU
   have⟨b,aG,aD,aQ⟩:=t m I N cU;refine⟨b,by rw[pX aj,<-s];exact aG,aD.trans ?_,aQ⟩;have:(ak++a::eB).Perm ((a::ak)++eB):=by simp only[List.cons_append];exact List.perm_middle
   exact(au.append_right eB).trans this.symm
 cases L with
 |nil=>exact absurd rfl aR
 |cons a eB=>exact gen eB [a] ef d Lc
def MX{ag D:Type}(s:E ag)(x:ag->D)(a:E D){i:Int×E D->X ((Int×E D)⊕E D)}(cN:F s<1000000)
  (h:∀g (af:g<F s) (y:E D),F y<=F a+g->i ((g:Int),y)=B (.inl (((g+1:Nat):Int),y++[x s[g]])))(b:∀y,i ((F s:Int),y)=B (.inr y)):dq i (0,a)=B (a++s.map x):=by
 have:=ow (i:=i) (λg=>((g:Int),a++(s.take g).map x)) (F s) (λg af=>?_)<|b _
 .simpa using this
 .rw[h g af _ fv,ta (e6 af),hN];simp
section
variable{n j:Nat}(cR:n<=4)
def nc(n j:Nat)(a:c0):Prop:=kj n a/\fC a≠j
include cR
theorem akA{L:E c0}(o:∀b∈L,nc n j b)(an:sG fC L)(cN:F L<=12):de (Ko L) λr=>(∀b∈r,nc n j b)/\iy fC r:=by
 unfold Ko Ei;rw[ep];have ah:∀t l (ab:t<l) (u:l<F L),fC (L[t]'I)<=fC L[l]:=λt l ab u=>px.1 an t l I u ab
 refine⟨λh=>dg.2 ⟨o,?_⟩,λh=>?_⟩
 .have h:=f8 h;refine px.2 λt l k u ab=>?_
  omega
 .have aP:=of_decide_eq_false h;refine de.bind (u:=λa=>match a with|.inl _=>iy fC L|.inr r=>(∀b∈r,nc n j b)/\iy fC r) (hk (λq=>∃g:Nat,q=(g:Int)/\1<=g/\g<=F L/\∀t (k:t+1<g) (af:g<=F L),fC (L[t]'I)<fC (L[t+1]'I)) (λq=>((F L:Int)-q).toNat) (λq aj=>?_) ⟨1,rfl,I,I,λt k=>I⟩) λa d=>?_
  .obtain⟨g,rfl,aA,ae,ag⟩:=aj;unfold Wy;by_cases y:g<F L
   .have ad:g-1<F L:=by omega
    have ao:=(o _ (fi y)).1;have aq:=(o _ (fi ad)).1;rw[dO,dz y,c6,(dd:(g:Int)-1=((g-1:Nat):Int)),mW I];simp only[cQ.cL,et y,et ad,cI,gz,gx,e6 y,e6 ad];rw[t0 cR ao aq,ep];refine⟨λz=>?_,λz=>?_⟩
    .have z:=f8 z;rw[dz ⟨I,I,I⟩,c6,sJ];refine de.mono (hk (ah:=λl=>∃A:Nat,l.1=(A:Int)/\F l.2=F L/\A<=F L/\(∀b∈l.2,nc n j b)/\iy fC (l.2.take A))
      (λq=>∃(A m:Nat) (eH:E c0),q=((A:Int),(m:Int),eH)/\1<=m/\g+m<=F L/\F eH=F L/\g<=A/\A<=g+m-1/\eH.drop (g+m-1)=L.drop (g+m-1)/\(∀b∈eH,nc n j b)/\iy fC (eH.take A)/\∀b∈eH.take A,∀(d:g+m-1<F L),fC b<=fC L[g+m-1])
      (λq=>((F L:Int)-q.2.1).toNat) (λq aj=>?_) ⟨g,1,L,rfl,I,I,rfl,I,I,rfl,o,?_,?_⟩) λl u=>?_
     .obtain⟨A,m,eH,rfl,K,al,C,D,N,P,Q,S,aa⟩:=aj;unfold Wz Kp;have au:cM (F L:Int)-cM (g:Int)=F L-g:=dh;simp only[au];by_cases aw:g+m<F L
      .have ar:∀c,g+m-1<=c->∀(x:c<F L),eH[c]'I=L[c]:=λc az x=>by have:=congrArg (λs=>s[c-(g+m-1)]?) P;simp only[j2]at this;rw[(dd:g+m-1+(c-(g+m-1))=c),e6 I,e6 x]at this;exact mg this
       have am:F (cQ.cL (.part (cM (g:Int))<|F L-g) eH)=F L-g:=oe;have ai:∃a,di (cQ.cL (.part (cM (g:Int))<|F L-g) eH) (m:Int)=B a:=⟨_,et (by rw[am];omega)⟩;have ak:∃a,di (cQ.cL (.part (cM (g:Int))<|F L-g) eH) ((m-1:Nat):Int)=B a:=⟨_,et (by rw[am];omega)⟩;have⟨_,ai⟩:=ai;have⟨_,ak⟩:=ak;rw[show decide ((m:Int)<((F L-g:Nat):Int))=T from dz I,c6,(dd:(m:Int)-1=((m-1:Nat):Int)),mW I,ai,ak,e7 I,e7 I];simp only[cI,gz];rw[e6 (dd:g+m<F eH),e6 (dd:g+(m-1)<F eH)];simp only[cI];have aG:eH[g+m]=L[g+m]:=ar _ I aw;have aD:eH[g+(m-1)]=L[g+m-1]:=by have:=ar (g+m-1) (jq _) I;have e:g+(m-1)=g+m-1:=I;simp only[e];exact this
       rw[aG,aD];have av:=(o _ (fi aw)).1;have ay:=(o _ (fi (dd:g+m-1<F L))).1;have aB:=ah (g+m-1) (g+m) I aw;rw[t0 cR av ay,ep];refine⟨λap=>?_,λap=>?_⟩
       .have ap:=f8 ap;refine dg.2 (.inl ⟨_,rfl,⟨A,m+1,eH,rfl,I,I,C,D,I,?_,Q,S,λb ax d=>?_⟩,ew⟩)
        .have:=congrArg (k_ 1) P;rw[ri,ri]at this;rwa[(dd:g+(m+1)-1=g+m-1+1)]
        .have:=aa b ax I;have e:g+(m+1)-1=g+m:=I;simp only[e];omega
       .have ap:=of_decide_eq_false ap;simp only[cQ.cL,gx];rw[et (dd:A<F eH)];simp only[cI];rw[e6 (dd:A<F eH)];simp only[cI];refine dg.2 (.inl ⟨_,rfl,⟨A+1,m+1,eH.set A L[g+m],rfl,I,I,by simpa using C,I,I,?_,λb ax=>?_,?_,λb ax d=>?_⟩,ew⟩)
        .rw[Ox I];have:=congrArg (k_ 1) P;rw[ri,ri]at this;rwa[(dd:g+(m+1)-1=g+m-1+1)]
        .rcases xH ax with i|rfl
         .exact Q b i
         .exact o _ (fi _)
        .have:(eH.set A L[g+m]).take (A+1)=eH.take A++[L[g+m]]:=by rw[Ou fv,Ov,Ow fv];simp
         rw[this];refine py.2 ⟨S,dh,λt k l u=>?_⟩;rw[gO.1 u];have:=aa t k I;omega
        .have e:(eH.set A L[g+m]).take (A+1)=eH.take A++[L[g+m]]:=by rw[Ou fv,Ov,Ow fv];simp
         rw[e]at ax;have e:g+(m+1)-1=g+m:=I;simp only[e];rcases gq.1 ax with i|i
         .have:=aa b i I;omega
         .rw[gO.1 i];omega
      .rw[show decide ((m:Int)<((F L-g:Nat):Int))=Z from dr I,dm];exact dg.2<|.inr ⟨_,rfl,A,rfl,C,I,Q,S⟩
     .refine iy.abT λt k=>?_
      simp only[hO]at k;rw[uw,uw];exact ag t I ae
     .intro b ax d;obtain⟨t,k,rfl⟩:=mf.1 ax;simp only[hO]at k;rw[uw];rcases la t (g-1)with i|i
      .have:=ah t (g+1-1) I d;exact this
      .have aG:t=g-1:=by omega
       subst aG;have e:g+1-1=g:=I;simp only[e];omega
     .have⟨A,K,al,C,D,N⟩:=u;have⟨aC,eH⟩:=l;simp only at K al D N;subst K;simp only[gz];refine ep.2 ⟨λ_=>ep.2 ⟨λ_=>?_,λx=>absurd ⟨I,I,FQ I⟩<|of_decide_eq_false x⟩,λx=>absurd ⟨I,I,I⟩<|of_decide_eq_false x⟩;rw[FR _ _ _ _ I,dg];exact .inr ⟨_,rfl,λb ax=>D b<|tr ax,N⟩
    .have z:=of_decide_eq_false z;rw[e7 I,dg];refine .inl ⟨_,rfl,⟨g+1,rfl,I,I,λt k af=>?_⟩,I⟩;rcases la (t+1) g with i|i
     .exact ag t i ae
     .have aG:t=g-1:=by omega
      subst aG;have e:g-1+1=g:=I;simp only[e];have:=ah (g-1) g I y;omega
   .rw[dO,dr y,dm,dg];refine .inr ⟨_,rfl,iy.abT λt k=>ag t I ae⟩
  .cases a with
   |inl p=>exact dg.2 ⟨o,d⟩
   |inr r=>exact dg.2 d
theorem akz{s:E dL}(h:∀r∈s,nc n j r.c3){ag:E dH}(cK:∀e∈ag,nc n j e.c3)(cN:F s+F ag<=12):de (Kn s ag) λr=>(∀i∈r,nc n j i)/\iy fC r:=by
 unfold Kn;rw[MX s (λr=>r.c3) [] I (λg af y m=>?_) λy=>?_,cI,MX ag (λr=>r.c3) _ I (λg af y m=>?_) λy=>?_,cI]
 .generalize p:([]:E c0)++s.map (λr=>r.c3)++ag.map (λr=>r.c3)=L;have q:∀i∈L,nc n j i:=λi ax=>by
   rw[<-p]at ax;simp only[k8,gq,hT]at ax;rcases ax with⟨r,ay,rfl⟩|⟨r,ay,rfl⟩
   .exact h r ay
   .exact cK r ay
  have z:F L<=12:=by rw[<-p];simp;omega
  have D:∃v,rn (U cZ (F L:Int))=B v:=by have x:∀A:Fin 13,(rn<|U cZ ((A.val:Nat):Int)).isSome=T:=lK;exact lb.1<|x ⟨F L,I⟩
  have⟨v,ab⟩:=D;rw[ab,cI];have P:∃b,dq (ye L) (1,L)=B b/\(∀i∈b,nc n j i)/\sG fC b/\F b<=12:=by
   have N:∀(ak:E c0) (o a:c0) (eB:E c0),F ak+F eB<100000->nc n j o->nc n j a->Ax (((F ak+1:Nat):Int),ak++o::a::eB)=B (if fC a<fC o then .inl ((F ak:Int),ak++a::o::eB)else .inr<|ak++o::a::eB):=by
    intro ak o a eB aj ad d;unfold Ax;have Q:di (ak++o::a::eB) ((F ak+1:Nat):Int)=B a:=W3;have t:∀(an:c0),di (ak++o::an::eB) (F ak:Int)=B o:=λan=>W4
    have u:U W (((F ak+1:Nat):Int)-1)=(F ak:Int):=by rw[(dd:(((F ak+1:Nat):Int)-1)=(F ak:Int))];exact mW I
    simp only[u,cQ.cL];rw[dz dd,c6,Q,t];simp only[cI,gz,gx,FC,rI,cQ.cL,T_,T9,t];rw[tZ cR d.1 ad.1];simp only[cI];by_cases k:fC a<fC o
    .rw[dE k,dz (pd.2 k)];rfl
    .rw[dA k,dr (λC=>k<|pd.1 C)];rfl
   have K:∀eH:E c0,Ax (0,eH)=B (.inr eH):=λeH=>by unfold Ax;rw[dr dd,dm]
   cases L with
   |nil=>refine⟨[],mr ?_,dh,Lc,dh⟩;unfold ye;rw[dr dh,dm]
   |cons a eB=>
    have key:∀(eH:E c0) (g:Nat),g<F (a::eB)->ye (a::eB) ((g:Int),eH)=(dq Ax ((g:Int),eH)).bind λl=>B (.inl (((g+1:Nat):Int),l)):=λeH g af=>by unfold ye;simp only;rw[dO,dz af,c6,e7 I]
    have S:∀eH:E c0,ye (a::eB) ((F (a::eB):Int),eH)=B (.inr eH):=λeH=>by unfold ye;simp only;rw[dO,dr I,dm]
    have⟨b,aG,aD,aQ⟩:=Sy (f:=fC) N K key S I q dh;exact⟨b,aG,λi ax=>q i ef,aQ,by rw[aD.length_eq];exact z⟩
  have⟨b,aa,ae,ah,ai⟩:=P;have:dq (Kq L) ()=B b:=by refine mr ?_;unfold Kq;rw[(dd:(F L:Int)-0=(F L:Int)),mW I,dz I,c6,show(0:Int)+1=((1:Nat):Int) by rfl,mW I];rw[(J:((1:Nat):Int)=1),aa];rfl
  rw[this,cI];exact akA cR ae ah ai
 .unfold PS;simp only[cQ.cL,iV];simp only[k8,fT]at m;rw[dO,dz af,c6,et af,cI,i8 fv fv,cI,e7 I]
 .unfold PS;simp only;rw[dO,dr I,dm]
 .unfold PR;simp only[cQ.cL,iV];simp only[kv]at m;rw[dO,dz af,c6,et af,cI,i8 fv fv,cI,e7 I]
 .unfold PR;simp only;rw[dO,dr I,dm]
end
def lD:gE:=⟨Z,0,0,0,0⟩
def Fa(C:gE):Prop:=0<=C.jH/\C.jH<2^C.iF.toNat/\0<=C.iF/\C.iF<=8/\0<=C.kR/\C.kR<=65535
def qf(C:gE):Prop:=C.nf=T/\Fa C/\C.jH≠0/\1<=C.iF
def u7(C:gE):Prop:=C=lD\/qf C
def TM{c:Int}(dI:0<=c)(a:c<=8):(2:Int)^c.toNat<=256:=by have:c=0\/c=1\/c=2\/c=3\/c=4\/c=5\/c=6\/c=7\/c=8:=I;rcases this with rfl|rfl|rfl|rfl|rfl|rfl|rfl|rfl|rfl<;>decide
def aqQ{c:Int}(dI:0<=c)(a:c<8):(2:Int)^(c+1).toNat=2*2^c.toNat:=by have:c=0\/c=1\/c=2\/c=3\/c=4\/c=5\/c=6\/c=7:=I;rcases this with rfl|rfl|rfl|rfl|rfl|rfl|rfl|rfl<;>decide
def arV:∀(h:Fin 256) (l:Fin 2),jD cH (ji cH (h.val:Int) 1) (l.val:Int)=((2*h.val%256+l.val:Nat):Int):=lK
def TN{C:gE}(h:Fa C){l:Int}(s:l=0\/l=1):∃a,DJ C l=B a/\Fa a/\a.nf=C.nf/\1<=a.iF/\(l=1->a.jH≠0):=by
 have⟨G,j,d,k,m,o⟩:=h;have q:=TM d k;obtain⟨H,i⟩:∃H:Nat,C.jH=(H:Int):=⟨C.jH.toNat,I⟩;obtain⟨eB,b⟩:∃eB:Nat,l=(eB:Int)/\eB<2:=⟨l.toNat,I,I⟩;have⟨b,p⟩:=b;have aj:=arV ⟨H,I⟩ ⟨eB,p⟩;simp only at aj;refine⟨_,rfl,?_⟩;simp only;rw[i,b,aj,fx I I];have t:2*H%256=if 2*H<256 then 2*H else 2*H-256:=AP
 refine⟨⟨ew,?_,?_,?_,m,o⟩,trivial,?_,?_⟩
 .simp only;by_cases g:8<C.iF+1
  .rw[dE g];show((2*H%256+eB:Nat):Int)<256;omega
  .rw[dA g,aqQ d I];rw[i]at j;omega
 .simp only;split<;>omega
 .simp only;split<;>omega
 .split<;>omega
 .intro ap;omega
def ad3{C:gE}(h:u7 C):DI C=B T:=by
 rcases h with rfl|⟨G,⟨o,d,a,b,g,i⟩,j,k⟩
 .kernel_rfl
 .unfold DI;have l:gE.fV C ⟨Z,0,0,0,0⟩=Z:=by unfold gE.fV;rw[G];rfl
  have m:ji W 1 C.iF=2^C.iF.toNat:=by have:C.iF=1\/C.iF=2\/C.iF=3\/C.iF=4\/C.iF=5\/C.iF=6\/C.iF=7\/C.iF=8:=I;rcases this with h|h|h|h|h|h|h|h<;>rw[h]<;>decide+kernel
  have p:=TM a b;rw[l,dm,G,c6,dz k,c6,dz b,c6,show(C.jH !=0)=T by simpa using j,c6,dz a,c6,m,fx I I,dz d,c6,dz g,c6,dz i]
def G7{C:gE}(h:u7 C):wt C=B C:=by unfold wt;rw[ad3 h];rfl
theorem alV{H c:Nat}{i:Int}(a:0<=i)(b:i<=8)(h:H<2^c):0<=gh cH (H:Int) i/\gh cH (H:Int) i<2^(c-i.toNat):=by
 obtain⟨P,rfl⟩:∃P:Nat,i=(P:Int):=⟨i.toNat,I⟩;have e:gh cH (H:Int) (P:Int)=((H/2^P:Nat):Int):=by
  unfold gh;have:min (P:Int).toNat cH.bits=P:=by show min (P:Int).toNat 8=P;simp only[gz];omega
  have aD:(2:Int)^P=((2^P:Nat):Int):=Xx;rw[this,aD,Va _ ef];exact(Vu _ _).symm
 have aQ:(2:Int)^(c-(P:Int).toNat)=((2^(c-P):Nat):Int):=by rw[Oj];simp
 rw[e,aQ];refine⟨Int.natCast_nonneg _,?_⟩;have Y:0<2^P:=Nat.two_pow_pos P;have:H/2^P<2^(c-P):=by rw[Nat.div_lt_iff_lt_mul Y,<-Nat.pow_add];exact Nat.lt_of_lt_of_le h<|Nat.pow_le_pow_right I I
 omega
theorem aqT{C:gE}(h:u7 C){seq:Int}:de (JC C seq) qf:=by
 have x:∀v,qf ⟨T,1,1,v,0⟩:=λv=>⟨rfl,⟨(dd:(0:Int)<=1),show(1:Int)<2^(1:Int).toNat by decide,(dd:(0:Int)<=1),(dd:(1:Int)<=8),(dd:(0:Int)<=0),show(0:Int)<=65535 by omega⟩,(dd:(1:Int)≠0),show(1:Int)<=1 by omega⟩
 unfold JC;rw[G7 h,cI];generalize Q:U W (U sd (U fW (seq-C.Next)))=i;rw[ep];refine⟨λaf=>?_,λ_=>dg.2 cU⟩;have ap:qf C:=by
  rcases h with rfl|h
  .cases af
  .exact h
 have⟨G,b,ad,ae⟩:=ap;have p:∀(H c:Int),0<=H->H<2^c.toNat->0<=c->c<=8->i<=8->de (DE seq C (H,c)) qf:=by
  intro H c y z D K ah;unfold DE;refine de.bind (u:=λa=>Fa a/\a.nf=T) (hk (λq=>∃g:Nat,q.1=(g:Int)/\g<=8/\Fa q.2/\q.2.nf=T) (λq=>(8-q.1).toNat) (λq aj=>?_) ⟨0,rfl,I,⟨y,z,D,K,b.2.2.2.2.1,b.2.2.2.2.2⟩,G⟩) λa d=>?_
  .have⟨g,al⟩:=q;have⟨A,u,ai,k,l⟩:=aj;simp only at u k l;subst u;unfold Wh;simp only;rw[ep];refine⟨λj=>?_,λ_=>dg.2<|.inr ⟨_,rfl,k,l⟩⟩;have⟨ab,aG,aD,aQ,_,_⟩:=TN k (l:=0)<|.inl rfl;rw[aG,cI,e7 I,dg];have aX:(A:Int)<8:=by have:=f8 j;rw[Q]at this;omega
   exact .inl ⟨_,rfl,⟨A+1,rfl,I,aD,by rw[aQ];exact l⟩,ew⟩
  .have⟨ab,aG,aD,aQ,aH,N⟩:=TN d.1 (l:=1) (.inr rfl);rw[aG,cI,dg];exact⟨aQ.trans d.2,aD,N rfl,aH⟩
 rw[ep];refine⟨λ_=>dg.2<|x _,λt=>ep.2 ⟨λ_=>dg.2<|x _,λS=>ep.2 ⟨λo=>?_,λo=>?_⟩⟩⟩
 .have t:=of_decide_eq_false t;have o:=f8 o;have e:U W (0-i)= -i:=by rw[fx I I];omega
  rw[e,dz I,c6];obtain⟨H,s⟩:∃H:Nat,C.jH=(H:Int):=⟨C.jH.toNat,by have:=b.1;omega⟩;obtain⟨c,j⟩:∃c:Nat,C.iF=(c:Int):=⟨C.iF.toNat,I⟩;have ag:=b.2.2.2.1;have m:=b.2.1;rw[s,j]at m;simp only[gz]at m;have P:H<2^c:=by have aD:(2:Int)^c=((2^c:Nat):Int):=Xx;rw[aD]at m;omega
  have⟨aa,ak⟩:=alV (H:=H) (c:=c) (i:= -i) I I P;rw[s,j,fx I I];refine p _ _ aa ?_ AP AP I;have:(if(c:Int)+i<0 then(0:Int)else(c:Int)+i).toNat=c-(-i).toNat:=AP;rwa[this]
 .exact p _ _ b.1 b.2.1 b.2.2.1 b.2.2.2.1 (by have:=of_decide_eq_false S;omega)
theorem ad1{C:gE}(h:u7 C)(c:Int):de (DF C c) λr=>u7 r/\(qf C->qf r):=by
 unfold DF Aj;rw[G7 h,cI,ep];have t:(⟨C.nf,C.jH,C.iF,C.Next,C.kR⟩:gE)=C:=rfl;refine⟨λaf=>?_,λ_=>dg.2 cU⟩;have ap:qf C:=by
  rcases h with rfl|h
  .cases af
  .exact h
 have⟨G,⟨g,i,j,k,b,d⟩,o,p⟩:=ap;have a:∀v,0<=v->v<=65535->qf ({C with kR:=v}):=λv q s=>⟨G,⟨g,i,j,k,q,s⟩,o,p⟩
 simp only[ep,dg];refine⟨λl=>⟨λm=>?_,λ_=>?_⟩,λ_=>?_⟩
 .have:=a c (by have:=f8 l;omega) (f8 m);exact⟨.inr this,λ_=>this⟩
 .have:=a C.kR b d;exact⟨.inr this,λ_=>this⟩
 .have:=a C.kR b d;exact⟨.inr this,λ_=>this⟩
def aqU{C:gE}(h:qf C):de (JD C) u7:=by unfold JD;rw[G7 (.inr h),cI];have⟨a,aG,aD,aQ,aH,_⟩:=TN h.2.1 (l:=0) dd;rw[aG,cI,ep];refine⟨λ_=>dg.2<|.inl rfl,λdI=>dg.2<|.inr ⟨aQ.trans h.1,aD,W6,aH⟩⟩
def arF:∀H:Fin 256,H.val≠0->(match dq (DH ⟨T,(H.val:Int),0,0,0⟩) (0,0)with|some l=>decide (1<=l/\l<=8)|none=>Z)=T:=lK
def ad0{t l:Int}(a:0<=t)(j:t<=1099511627776)(b:1<=l)(aJ:l<=65536):∃c,DK t l=B c/\0<=c/\c<=t+1:=by
 unfold DK;rw[show decide (l≠0)=T from dz I,c6];refine⟨_,rfl,?_⟩;rw[show U W (t+l)=t+l from fx I I,show U W (t+l-1)=t+l-1 from fx I I];unfold hf;have G:(t+l-1).tdiv l=(t+l-1)/l:=ux I;rw[G];have d:0<=(t+l-1)/l:=Int.ediv_nonneg I I;have g:(t+l-1)/l<=t:=by
  have:(t+l-1)/l<t+1:=by
   rw[Int.ediv_lt_iff_lt_mul I];have:t*1<=t*l:=Int.mul_le_mul_of_nonneg_left b a;have i:(t+1)*l=t*l+l:=by rw[Int.add_mul,Int.one_mul]
   omega
  omega
 rw[fx I I];omega
theorem ad2{C:gE}(h:qf C):∃c,DG C=B c/\0<=c/\c<=2049:=by
 have⟨G,⟨g,i,b,d,j,k⟩,m,o⟩:=h;have s:=TM b d;unfold DG;rw[G7 (.inr ⟨G,⟨g,i,b,d,j,k⟩,m,o⟩),cI,G,c6];obtain⟨H,p⟩:∃H:Nat,C.jH=(H:Int):=⟨C.jH.toNat,I⟩;have a:=arF ⟨H,I⟩ cU;have e:DH C=DH ⟨T,(H:Int),0,0,0⟩:=by funext q;unfold DH;rw[p]
 rw[e];simp only at a;split at a
 next l aJ=>have a:=f8 a;rw[aJ,cI,show U W (256*C.iF)=256*C.iF from fx I I];have⟨c,aG,aD,aQ⟩:=ad0 (t:=256*C.iF) (l:=l) I I a.1 I;exact⟨c,by rw[aG];rfl,aD,I⟩
 .cases a
def aqS{C:gE}(h:qf C):∃c,JB C=B c/\0<=c/\c<=65535:=by
 unfold JB;have⟨a,aG,aD,aQ⟩:=ad2 h;rw[G7 (.inr h),cI,aG,cI];have⟨_,⟨_,_,_,_,j,k⟩,_,_⟩:=h;cases(a==65535)
 .cases(C.kR==0)
  .cases(C.kR==65535)
   .simp only[dm];generalize g:(if C.kR<256 then(256:Int)else C.kR)=A;have b:0<=A/\A<=65535:=by rw[<-g];split<;>omega
    have o:A*a<=65535*2049:=Int.mul_le_mul b.2 aQ aD I;have i:0<=A*a:=Vv b.1 aD;rw[fx I I];have⟨c,d,l,m⟩:=ad0 (t:=A*a) (l:=256) i I I I;rw[d,cI];refine⟨_,rfl,?_⟩;split<;>omega
   .exact⟨_,rfl,I,I⟩
  .exact⟨_,rfl,I,I⟩
 .exact⟨_,rfl,I,I⟩
def pF(n j:Nat)(e:dH):Prop:=kj n e.c3/\fC e.c3≠j/\g6 e.fU.dx/\((hQ n j e.eb/\k3 e.fU.ff/\(e.kO= -1\/fy e.kO)/\e.ge=0)\/(e.eb=0/\e.fU.ff=65535/\e.kO= -1/\fy e.ge))
def w6(e:dH):Nat:=fC e.c3
def pE(n j:Nat)(s:E dH):Prop:=(∀e∈s,pF n j e)/\iy w6 s
def sC(n j:Nat)(y:fO):Prop:=hQ n j y.eb/\0<=y.ii/\y.ii<=65535
def adw(y:fO):Nat:=hX y.eb
def AO(n j:Nat)(s:E fO):Prop:=(∀y∈s,sC n j y)/\iy adw s
def AO.len{n j:Nat}{s:E fO}(h:AO n j s):F s<=n:=h.2.len λy cK=>(h.1 y cK).1.lt
def pE.len{n j:Nat}{s:E dH}(hi:j<n)(h:pE n j s):F s<=n-1:=h.2.al_ hi λy cK=>⟨(h.1 y cK).1.lt,(h.1 y cK).2.1⟩
theorem Gz{S am:Type}{ae:S->S->Bool}{s:E (S×am)}{g:S}(h:∀z∈s,ae g z.1=Z):pl ae s g=Z:=by unfold pl;rw[UP.2 ef];rfl
def abD{S am:Type}{ae:S->S->Bool}{s:E (S×am)}{g:S}{v:am}(h:i2 ae s g=B v):∃z∈s,z.2=v/\ae g z.1=T:=by unfold i2 at h;obtain⟨z,Y,rfl⟩:=Option.map_eq_some_iff.1 h;exact⟨z,List.mem_of_find?_eq_some Y,rfl,by have:=List.find?_some Y;simpa using this⟩
def hQ.abt{n j:Nat}{t l:Int}(a:hQ n j t)(b:hQ n j l):t<l↔hX t<hX l:=by rw[a.lS,b.lS,rR,rR];unfold fF;omega
section
variable{n j:Nat}(cR:n<=4)
def amJ{a:Int}(h:fy a):z5 a=B T:=by unfold z5;rw[dz h.1,dz h.2];rfl
theorem aqi{s:E fO}(h:AO n j s)(cR:n<=4):xX s=B T:=by
 have aP:=h.len;unfold xX;rw[dr I];simp only[dm];have:dq (Da s) 0=B (.inl ()):=by
  refine nr (Q:=F s) (λg af=>?_) ?_
  .unfold Da;have⟨a,b,d⟩:=h.1 _ (fi af);rw[dO,dz af,et af,c6,cI,hl a.zd,dm,Gw b d,cI,c6,e7 I];by_cases dI:g=0
   .subst dI;rfl
   .rw[dz (dd:(g:Int)>0),(dd:(g:Int)-1=((g-1:Nat):Int)),mW I,et (dd:g-1<F s),c6,cI];have G:=h.2.jT (j:=g-1) (m:=g) I af;have i:=((h.1 _ (fi (dd:g-1<F s))).1.abt a).2 G;rw[dr I];rfl
  .unfold Da;rw[dO,dr I];rfl
 rw[this];rfl
theorem aqh(s:E fO)(cN:F s<=100000):de (xX s) λ_=>True:=by
 have i:∀a,de (oM a) λ_=>True:=λa=>by unfold oM;simp only[ep,dg,implies_true,and_self]
 unfold xX;rw[ep];refine⟨λ_=>dg.2 trivial,λ_=>de.bind (u:=λ_=>True) (hk (λq=>∃g:Nat,q=(g:Int)/\g<=F s) (λq=>((F s:Int)-q).toNat) (λq aj=>?_) ef) λa _=>by cases a<;>exact dg.2 trivial⟩;obtain⟨g,rfl,af⟩:=aj;unfold Da;by_cases b:g<F s
 .rw[dO,dz b,c6,et b,cI,ep,e7 I];have d:de (B (dV ((g+1:Nat):Int)):X (Int⊕(Unit⊕Bool))) λa=>(∃ao,a=.inl ao/\(∃g:Nat,ao=(g:Int)/\g<=F s)/\((F s:Int)-ao).toNat<((F s:Int)-(g:Int)).toNat)\/∃r,a=.inr r/\True:=dg.2<|.inl ⟨_,rfl,⟨g+1,rfl,I⟩,I⟩
  refine⟨λ_=>dg.2<|.inr ⟨_,rfl,trivial⟩,λ_=>(i _).bind λv _=>ep.2 ⟨λ_=>ep.2 ⟨λdI=>?_,λ_=>d⟩,λ_=>dg.2<|.inr ⟨_,rfl,trivial⟩⟩⟩;have dI:=f8 dI;rw[(dd:(g:Int)-1=((g-1:Nat):Int)),mW I,et (dd:g-1<F s),cI,ep];exact⟨λ_=>dg.2<|.inr ⟨_,rfl,trivial⟩,λ_=>d⟩
 .rw[dO,dr b,dm];exact dg.2<|.inr ⟨_,rfl,trivial⟩
theorem abE{K:Int}(ax:fy K){ag:mm}(cK:ag.kO= -1\/fy ag.kO){s:E fO}(h:∀y∈s,sC n j y)(cN:F s<=100000):de (C9 K ag s) λr=>r.2=0->(r.1.eb=0\/(hQ n j r.1.eb/\k3 r.1.ii))/\(r.1.kO= -1\/fy r.1.kO):=by
 have bo:de (IQ ag) λ_=>True:=by unfold IQ oM z5;simp only[sJ,ep,dg,implies_true,and_self]
 unfold C9;refine bo.bind λv _=>ep.2 ⟨λ_=>(aqh s cN).bind λv _=>ep.2 ⟨λ_=>?_,λ_=>dg.2 dd⟩,λ_=>dg.2 dd⟩
 rw[amJ ax,cI,c6];have b:∀(y:fO) (l:Int),(y.eb=0\/(hQ n j y.eb/\k3 y.ii))->(l= -1\/fy l)->de ((uM y l).bind λv=>B (v.1,v.2)) λr=>r.2=0->(r.1.eb=0\/(hQ n j r.1.eb/\k3 r.1.ii))/\(r.1.kO= -1\/fy r.1.kO):=λy l G aa=>by unfold uM;exact dg.2 λ_=>⟨G,aa⟩
 have P:∀y∈s,y.ii<65535->y.eb=0\/(hQ n j y.eb/\k3 y.ii):=λy cK m=>.inr ⟨(h y cK).1,(h y cK).2.1,m⟩
 refine de.bind (u:=λl=>(l.1.eb=0\/(hQ n j l.1.eb/\k3 l.1.ii))/\(l.2.eb=0\/(hQ n j l.2.eb/\k3 l.2.ii))) (hk (λq=>∃g:Nat,q.1=(g:Int)/\g<=F s/\(q.2.1.eb=0\/(hQ n j q.2.1.eb/\k3 q.2.1.ii))/\q.2.1.ii<=65535/\(q.2.2.eb=0\/(hQ n j q.2.2.eb/\k3 q.2.2.ii))) (λq=>((F s:Int)-q.1).toNat) (λq aj=>?_) ⟨0,rfl,I,.inl rfl,ew,.inl rfl⟩) λl d=>?_
 .have⟨ab,A,C⟩:=q;have⟨g,N,af,u,D,p⟩:=aj;simp only at N u D p;subst N;unfold V3;by_cases t:g<F s
  .have x:=fi t;have z:∀(a o:fO),(a.eb=0\/(hQ n j a.eb/\k3 a.ii))->a.ii<=65535->(o.eb=0\/(hQ n j o.eb/\k3 o.ii))->de (z4 ((g:Int),A,C) (a,o)) λa=>(∃ao,a=.inl ao/\(∃g:Nat,ao.1=(g:Int)/\g<=F s/\(ao.2.1.eb=0\/(hQ n j ao.2.1.eb/\k3 ao.2.1.ii))/\ao.2.1.ii<=65535/\(ao.2.2.eb=0\/(hQ n j ao.2.2.eb/\k3 ao.2.2.ii)))/\((F s:Int)-ao.1).toNat<((F s:Int)-(g:Int)).toNat)\/∃r,a=.inr r/\(r.1.eb=0\/(hQ n j r.1.eb/\k3 r.1.ii))/\(r.2.eb=0\/(hQ n j r.2.eb/\k3 r.2.ii)):=by intro a o i k S;unfold z4;rw[e7 I,dg];exact .inl ⟨_,rfl,⟨g+1,rfl,I,i,k,S⟩,ew⟩
   have Q:∀(a:fO),(a.eb=0\/(hQ n j a.eb/\k3 a.ii))->a.ii<=65535->de (C_ s[g] ag ((g:Int),A,C) a) λa=>(∃ao,a=.inl ao/\(∃g:Nat,ao.1=(g:Int)/\g<=F s/\(ao.2.1.eb=0\/(hQ n j ao.2.1.eb/\k3 ao.2.1.ii))/\ao.2.1.ii<=65535/\(ao.2.2.eb=0\/(hQ n j ao.2.2.eb/\k3 ao.2.2.ii)))/\((F s:Int)-ao.1).toNat<((F s:Int)-(g:Int)).toNat)\/∃r,a=.inr r/\(r.1.eb=0\/(hQ n j r.1.eb/\k3 r.1.ii))/\(r.2.eb=0\/(hQ n j r.2.eb/\k3 r.2.ii)):=by intro a i k;unfold C_;exact ep.2 ⟨λm=>ep.2 ⟨λ_=>z _ _ i k<|P _ x<|f8 m,λ_=>z _ _ i k p⟩,λ_=>z _ _ i k p⟩
   simp only;rw[dO,dz t,c6,et t,cI,ep];refine⟨λm=>Q _ (P _ x ?_) (h _ x).2.2,λ_=>Q _ u D⟩;have:=f8 m;omega
  .simp only;rw[dO,dr t,dm];exact dg.2<|.inr ⟨_,rfl,u,p⟩
 .exact ep.2 ⟨λ_=>b _ _ d.1<|.inl rfl,λ_=>ep.2 ⟨λ_=>b _ _ d.2<|.inl rfl,λ_=>ep.2 ⟨λ_=>b _ _ d.1<|.inl rfl,λ_=>ep.2 ⟨λ_=>b _ _ d.2<|.inr ax,λ_=>ep.2 ⟨λ_=>b _ _ d.1<|.inl rfl,λ_=>b _ _ d.2 cK⟩⟩⟩⟩⟩
include cR
def alx{e:dH}(h:pF n j e):Ek e=B T:=by
 obtain⟨G,l,m,i|i⟩:=h
 .have⟨a,b,d,g⟩:=i;unfold Ek qD;rw[rb cR G,cI,c6,cI,show(e.eb !=0)=T by simpa using a.zd,c6,aeq b,cI,c6,g];rcases d with k|k
  .rw[k];rfl
  .cases(e.kO== -1)
   .rw[dm,zq k];rfl
   .rfl
 .have⟨a,b,d,g⟩:=i;unfold Ek qD;rw[rb cR G,cI,c6,cI,a,b,d,zq g];rfl
theorem MD(hi:j<n){s:E dH}(h:pE n j s):yd s=B T:=by
 have aP:=h.len hi;unfold yd;rw[dr I];simp only[dm];have:dq (Kl s) 0=B (.inl ()):=by
  refine nr (Q:=F s) (λg af=>?_) ?_
  .unfold Kl;have cK:=h.1 _ (fi af);rw[dO,dz af,et af,c6,cI,alx cR cK,cI,c6,e7 I];by_cases dI:g=0
   .subst dI;rfl
   .rw[dz (dd:(g:Int)>0),(dd:(g:Int)-1=((g-1:Nat):Int)),mW I,et (dd:g-1<F s),c6,cI,tZ cR (h.1 _ (fi _)).1 cK.1,cI];have G:=h.2.jT (j:=g-1) (m:=g) I af;unfold w6 at G;rw[dr Lb];rfl
  .unfold Kl;rw[dO,dr I];rfl
 rw[this];rfl
omit cR in
theorem amI(t l:Int):de (IP t l) λc=>c<=65535/\(0<=t->0<=l->0<=c)/\0<=c:=by
 unfold IP oM;by_cases G:0<=t/\t<=65535
 .by_cases b:0<=l/\l<=65535
  .rw[dz G.1,dz G.2,dz b.1,dz b.2,fx I I];exact dg.2 dd
  .by_cases a:l>=0
   .rw[dz G.1,dz G.2,dz a,dr dd];exact dg.2 dd
   .rw[dz G.1,dz G.2,dr a];exact dg.2 dd
 .by_cases a:t>=0
  .rw[dz a,dr dd];exact dg.2 dd
  .rw[dr a];exact dg.2 dd
theorem arP{s:E dL}(h:kk n j s){P:E eh}(al:jJ n P){K:Int}(ax:fy K){p:c0}(hi:kj n p)(N:E (Int×Int)){eM:Nat}(ay:eM<=F s):
  de (dq (PQ s p N K P) ((eM:Int),([]:E fO),([]:E (Int×e2)))) λl=>∃r:Nat,l.1=(r:Int)/\r<=F s/\(∀y∈l.2.1,sC n j y)/\F l.2.1<=32/\∀z∈l.2.2,g6 z.2.dx:=by
 have aP:=h.len cR;refine hk (λq=>∃g:Nat,q.1=(g:Int)/\eM<=g/\g<=F s/\(∀c (b:c<F s),eM<=c->c<g->s[c].c3=p)/\(∀y∈q.2.1,sC n j y)/\F q.2.1<=g/\∀z∈q.2.2,g6 z.2.dx/\∃c,∃b:c<F s,eM<=c/\c<g/\z.1=s[c].eb) (λq=>((F s:Int)-q.1).toNat) (λq aj=>?_) ef;have⟨aq,y,A⟩:=q;have⟨g,S,ae,af,Q,u,ag,i⟩:=aj;simp only at S u ag i;subst S;unfold PQ;simp only;have stop:de (B (du ((g:Int),y,A)):X ((Int×(E fO)×(E<|Int×e2))⊕(Int×(E fO)×(E<|Int×e2)))) λa=>(∃ao,a=.inl ao/\(∃g:Nat,ao.1=(g:Int)/\eM<=g/\g<=F s/\(∀c (b:c<F s),eM<=c->c<g->s[c].c3=p)/\(∀y∈ao.2.1,sC n j y)/\F ao.2.1<=g/\∀z∈ao.2.2,g6 z.2.dx/\∃c,∃b:c<F s,eM<=c/\c<g/\z.1=s[c].eb)/\((F s:Int)-ao.1).toNat<((F s:Int)-(g:Int)).toNat)\/∃r,a=.inr r/\∃t:Nat,r.1=(t:Int)/\t<=F s/\(∀y∈r.2.1,sC n j y)/\F r.2.1<=32/\∀z∈r.2.2,g6 z.2.dx:=dg.2 (.inr ⟨_,rfl,g,rfl,af,u,ew,λz Y=>(i z Y).1⟩)
 by_cases k:g<F s
 .have cK:=h.1 _ (fi k);rw[dO,dz k,c6];simp only[et k,cI];rw[t0 cR cK.1 hi,ep];refine⟨λam=>?_,λ_=>stop⟩;have aa:s[g].c3=p:=cK.1.inj hi<|f8 am;have ad:∀(x:E fO) (D:E (Int×e2)),(∀y∈x,sC n j y)->F x<=g+1->(∀z∈D,g6 z.2.dx/\∃c,∃b:c<F s,eM<=c/\c<g+1/\z.1=s[c].eb)->de (yb ((g:Int),y,A) (x,D)) λa=>(∃ao,a=.inl ao/\(∃g:Nat,ao.1=(g:Int)/\eM<=g/\g<=F s/\(∀c (b:c<F s),eM<=c->c<g->s[c].c3=p)/\(∀y∈ao.2.1,sC n j y)/\F ao.2.1<=g/\∀z∈ao.2.2,g6 z.2.dx/\∃c,∃b:c<F s,eM<=c/\c<g/\z.1=s[c].eb)/\((F s:Int)-ao.1).toNat<((F s:Int)-(g:Int)).toNat)\/∃r,a=.inr r/\∃t:Nat,r.1=(t:Int)/\t<=F s/\(∀y∈r.2.1,sC n j y)/\F r.2.1<=32/\∀z∈r.2.2,g6 z.2.dx:=by
   intro x D ah ai ak;unfold yb;rw[e7 I,dg];refine .inl ⟨_,rfl,⟨g+1,rfl,I,I,λc b aG aD=>?_,ah,ai,ak⟩,ew⟩;rcases la c g with aQ|aQ
   .exact Q c b aG aQ
   .have:c=g:=by omega
    subst this;exact aa
  have gJ:=ad y A u I λz Y=>⟨(i z Y).1,by have⟨c,b,aG,aD,aQ⟩:=(i z Y).2;exact⟨c,b,aG,I,aQ⟩⟩
  rw[ep];refine⟨λ_=>ep.2 ⟨λ_=>gJ,λ_=>(ar5 cR al ax hi _).bind λv _=>ep.2 ⟨λ_=>?_,λ_=>gJ⟩⟩,λ_=>gJ⟩;have an:pl (λ(a o:Int)=>(a==o)) A s[g].eb=Z:=by
   refine Gz λz Y=>?_
   have⟨_,c,b,aG,aD,aQ⟩:=i z Y;have ap:=h.1 _ (fi b);have aX:=h.2.jT (j:=c) (m:=g) aD k;unfold kg at aX;rw[Q c b aG aD,aa]at aX;refine hl λC=>?_
   rw[aQ]at C;rw[C]at aX;omega
  rw[an,v_,c6];refine(amI _ _).bind λv ab=>?_
  simp only[cQ.cL];rw[i8 fv fv,cI];refine ad _ _ (λa d=>?_) fv λz Y=>?_
  .rcases gq.1 d with d|d
   .exact u a d
   .rw[gO.1 d];exact⟨cK.2.2.1,ab.2.2,ab.1⟩
  .rcases gq.1 Y with Y|Y
   .have⟨G,c,b,aG,aD,aQ⟩:=i z Y;exact⟨G,c,b,aG,I,aQ⟩
   .rw[gO.1 Y];exact⟨cK.2.2.2.2.1,g,k,ae,I,rfl⟩
 .rwa[dO,dr k,dm]
omit cR in
theorem aey{K:Int}(ax:fy K){k:c0}(hi:nc n j k){l:Int×(E fO)×(E (Int×e2))}(a1:∀y∈l.2.1,sC n j y)(aJ:F l.2.1<=32)(ak:∀z∈l.2.2,g6 z.2.dx){b:E dH}(S:F b<=12){eM u:Int}{g:Nat}(af:g<100){v:Int×Bool×dH}{c:Bool×mm}(C:c.1=T->pF n j v.2.2/\v.2.2.c3=k)(D:c.2.kO= -1\/fy c.2.kO):
  de (Eh K l (b,eM,u,(g:Int)) v k c) λa=>∃d,a=.inl (d,l.1,v.1,((g+1:Nat):Int))/\(d=b\/∃e,pF n j e/\e.c3=k/\d=b++[e]):=by
 have p:∀(e:dH) (w:Bool),(w=T->pF n j e/\e.c3=k)->de (oO (b,eM,u,(g:Int)) l v (e,w)) λa=>∃d,a=.inl (d,l.1,v.1,((g+1:Nat):Int))/\(d=b\/∃e,pF n j e/\e.c3=k/\d=b++[e]):=by
  intro e w t;unfold oO ya;simp only[cQ.cL];rw[e7 I];cases w with
  |true=>rw[c6,i8 ef ef,cI,dg];exact cU
  |false=>exact dg.2 cU
 have s:=p (dH.mk (c0.mk (eW.mk eP 0) (eW.mk eP 0) 0) 0 (e2.mk 0 0) 0 0) Z cU;have A:=xo ax 14 I;have N:wx K 14=B (if 1099511627776<U W (K+((14:Nat):Int))then(1099511627776:Int)else U W<|K+((14:Nat):Int)):=rfl;have q:de (bif c.1 then(qD v.2.2).bind λP=>bif P then(wx K 14).bind λQ=>(oO (b,eM,u,(g:Int)) l v) ((dH.mk k 0 ({v.2.2.fU with ff:=65535}) (-1) Q),T)else bif decide (v.2.2.ge>K)then(oO (b,eM,u,(g:Int)) l v) (v.2.2,T)else(oO (b,eM,u,(g:Int)) l v) ((dH.mk (c0.mk (eW.mk eP 0) (eW.mk eP 0) 0) 0 (e2.mk 0 0) 0 0),Z)else(oO (b,eM,u,(g:Int)) l v) ((dH.mk (c0.mk (eW.mk eP 0) (eW.mk eP 0) 0) 0 (e2.mk 0 0) 0 0),Z)) λa=>∃d,a=.inl (d,l.1,v.1,((g+1:Nat):Int))/\(d=b\/∃e,pF n j e/\e.c3=k/\d=b++[e]):=by rw[ep];refine⟨λh=>?_,λ_=>s⟩;obtain⟨G,m⟩:=C h;unfold qD;rw[cI,ep];refine⟨λ_=>?_,λ_=>ep.2 ⟨λ_=>p _ _ λ_=>⟨G,m⟩,λ_=>s⟩⟩;rw[N,cI];exact p _ _ λ_=>⟨⟨hi.1,hi.2,G.2.2.1,.inr ⟨rfl,rfl,rfl,A⟩⟩,rfl⟩
 unfold Eh;refine(abE (n:=n) (j:=j) ax D a1 I).bind λw t=>ep.2 ⟨λdI=>ep.2 ⟨λG=>?_,λ_=>q⟩,λ_=>q⟩
 obtain⟨m,x⟩:=t W6;rw[cI];refine p _ _ λ_=>⟨⟨hi.1,hi.2,?_,.inl ⟨?_,?_,x,rfl⟩⟩,rfl⟩
 .show g6 (se (i2 _ l.2.2 w.1.eb) ⟨0,0⟩).dx;cases ar:i2 (λ(a o:Int)=>(a==o)) l.2.2 w.1.eb with
  |none=>exact⟨(dd:(0:Int)<=0),show(0:Int)<65536 by omega⟩
  |some i=>obtain⟨z,Y,rfl,_⟩:=abD ar;exact ak z Y
 .exact(m.resolve_left wF).1
 .exact(m.resolve_left wF).2
end
section
variable{n j:Nat}(cR:n<=4)(hi:j<n)
include cR hi
theorem arA{s:E dL}(h:kk n j s){aC:E eh}(aE:jJ n aC){y:E fO}(cK:AO n j y){ag:E dH}(ab:pE n j ag){K:Int}(ax:fy K):de (Kg K s aC y ag) λr=>r.2=0/\pE n j r.1:=by
 have aP:=h.abg cR hi;have aV:=cK.len;have aU:=ab.len hi;unfold Kg;rw[B7 cR h,zs cR aE,aqi cK cR,MD cR hi ab,zq ax];simp only[c6,cI];have ai:∃N,dq (Kh y) (0,[])=B N:=by
  have:=hk (i:=Kh y) (ah:=λ_=>True) (λq=>∃g:Nat,q.1=(g:Int)/\g<=F y/\∀z∈q.2,∃c,∃aw:c<F y,c<g/\z.1=y[c].eb) (λq=>((F y:Int)-q.1).toNat) (λq aj=>?_) (q:=(0,[])) ef
  .have⟨N,ai,_⟩:=this;exact cU
  .have⟨aW,A⟩:=q;have⟨g,aH,af,az⟩:=aj;simp only at aH az;subst aH;unfold Kh;simp only;by_cases k:g<F y
   .rw[dO,dz k,c6,et k,cI];have aM:pl (λ(a o:Int)=>(a==o)) A y[g].eb=Z:=by
     refine Gz λz Y=>hl λC=>?_
     have⟨c,aw,aG,aD⟩:=az z Y;have aX:=cK.2.jT (j:=c) (m:=g) aG k;rw[aD]at C;unfold adw at aX;rw[C]at aX;omega
    rw[aM,v_,c6,dg,e7 I];refine .inl ⟨_,rfl,⟨g+1,rfl,I,λz Y=>?_⟩,ew⟩;rcases gq.1 Y with Y|Y
    .have⟨c,aw,aG,aD⟩:=az z Y;exact⟨c,aw,I,aD⟩
    .rw[gO.1 Y];exact⟨g,k,I,rfl⟩
   .rw[dO,dr k,dm];exact dg.2<|.inr ⟨_,rfl,trivial⟩
 have⟨N,ai⟩:=ai;rw[ai,cI];refine(akz cR (j:=j) (λr ay=>⟨(h.1 r ay).1,(h.1 r ay).2.1⟩) (λe aF=>⟨(ab.1 e aF).1,(ab.1 e aF).2.1⟩) I).bind λP al=>?_
 have aT:F P<=n:=al.2.len λaR ax=>(al.1 aR ax).1.lt
 refine de.bind (u:=λR=>pE n j R/\F R<=12) (hk (λq=>∃g r b:Nat,q.2=((r:Int),(b:Int),(g:Int))/\g<=F P/\r<=F s/\b<=F ag/\(∀e∈q.1,pF n j e)/\(q.1.map (·.c3)).Sublist (P.take g)) (λq=>((F P:Int)-q.2.2.2).toNat) (λq aj=>?_) ⟨0,0,0,rfl,I,I,I,dh,dh⟩) λR hS=>?_
 .have⟨D,C⟩:=q;have⟨g,r,b,ap,aS,aI,ad,ae,Q⟩:=aj;simp only at ap ae Q;subst ap;have aA:F D<=12:=by have:=Q.length_le;simp only[fT,hO]at this;omega
  unfold Ww;simp only;by_cases k:g<F P
  .have u:=al.1 _ (fi k);rw[dO,dz k,c6,et k,cI];refine(arP cR h aE ax u.1 N aI).bind λl aL=>?_
   have⟨aQ,a1,aJ,ak,x,S⟩:=aL;have aa:∀(au:Nat) (a:((E dH)×Int×Int×Int)⊕(E dH)),au<=F ag->(∃p,a=.inl (p,l.1,(au:Int),((g+1:Nat):Int))/\(p=D\/∃e,pF n j e/\e.c3=P[g]/\p=D++[e]))->(∃ao,a=.inl ao/\(∃g r b:Nat,ao.2=((r:Int),(b:Int),(g:Int))/\g<=F P/\r<=F s/\b<=F ag/\(∀e∈ao.1,pF n j e)/\(ao.1.map (·.c3)).Sublist (P.take g))/\((F P:Int)-ao.2.2.2).toNat<((F P:Int)-(g:Int)).toNat)\/∃R,a=.inr R/\pE n j R/\F R<=12:=by
    rintro au a am ⟨p,rfl,G⟩;refine .inl ⟨_,rfl,⟨g+1,aQ,au,by rw[a1],I,aJ,am,?_⟩,ew⟩;have aN:P.take (g+1)=P.take g++[P[g]]:=ta<|e6 k;rw[aN];rcases G with rfl|⟨e,aG,aD,rfl⟩
    .exact⟨ae,Q.trans<|Oz _ _⟩
    .refine⟨λa d=>?_,?_⟩
     .rcases gq.1 d with d|d
      .exact ae a d
      .rw[gO.1 d];exact aG
     .simp only[hN,hx,jY,aD];exact Q.append<|xM _
   rw[ep];refine⟨λG=>?_,λ_=>?_⟩
   .have am:b<F ag:=by have:=f8 G;omega
    have an:=ab.1 _ (fi am);simp only[et am,cI];rw[t0 cR an.1 u.1,ep];refine⟨λah=>?_,λ_=>?_⟩
    .have aO:ag[b].c3=P[g]:=an.1.inj u.1 (f8 ah);rw[e7 I];unfold Eg;rw[ep];refine⟨λ_=>(aey ax u ak x S aA I (λ_=>⟨an,aO⟩) ?_).mono λa d=>aa (b+1) a I d,λC=>lL⟩;rcases an.2.2.2 with av|av
     .exact av.2.2.1
     .exact .inl av.2.2.1
    .unfold Eg;rw[ep];exact⟨λC=>lL,λ_=>(aey ax u ak x S aA I (λC=>lL)<|.inl rfl).mono λa d=>aa b a ad d⟩
   ·
    have aB:∀(e:dH) (w:Bool),(w=T->pF n j e/\e.c3=P[g])->de (Aw (D,(r:Int),(b:Int),(g:Int)) l (e,w)) λa=>∃p,a=.inl (p,l.1,(b:Int),((g+1:Nat):Int))/\(p=D\/∃e,pF n j e/\e.c3=P[g]/\p=D++[e]):=by
     intro e w aq;unfold Aw ya;simp only[cQ.cL];rw[e7 I];cases w with
     |true=>rw[c6,i8 fv fv,cI,dg];exact⟨_,rfl,.inr ⟨e,(aq rfl).1,(aq rfl).2,rfl⟩⟩
     |false=>exact dg.2 ⟨_,rfl,.inl rfl⟩
    refine(abE (n:=n) (j:=j) ax (ag:=⟨0,0,-1⟩) (.inl rfl) ak I).bind λw aq=>ep.2 ⟨λdI=>ep.2 ⟨λG=>?_,λ_=>(aB _ Z λC=>lL).mono λa d=>aa b a ad d⟩,λ_=>(aB _ Z λC=>lL).mono λa d=>aa b a ad d⟩
    have⟨ah,aK⟩:=aq W6;rw[cI];refine(aB _ T λ_=>⟨⟨u.1,u.2,?_,.inl ⟨?_,?_,aK,rfl⟩⟩,rfl⟩).mono λa d=>aa b a ad d
    .show g6 (se (i2 _ l.2.2 w.1.eb) ⟨0,0⟩).dx;cases ar:i2 (λ(a o:Int)=>(a==o)) l.2.2 w.1.eb with
     |none=>exact⟨(dd:(0:Int)<=0),show(0:Int)<65536 by omega⟩
     |some i=>obtain⟨z,Y,rfl,_⟩:=abD ar;exact S z Y
    .exact(ah.resolve_left wF).1
    .exact(ah.resolve_left wF).2
  .rw[dO,dr k,dm];refine dg.2<|.inr ⟨_,rfl,⟨ae,?_⟩,aA⟩;have Y:((D.map (·.c3)).Pairwise λt l=>fC t<fC l):=HJ (Q.trans<|Cq _ _) al.2;exact(sf (R:=λt l=>fC t<fC l) (f:=λe:dH=>e.c3)).1 Y
 .exact ep.2 ⟨λC=>absurd (f8 C) I,λ_=>dg.2 ⟨rfl,hS.1⟩⟩
theorem arB{s:E dL}(h:kk n j s){C:E eh}(Q:jJ n C){ag:E dH}(k:pE n j ag){K:Int}(ax:fy K):de (Ki K s C ag) λr=>(∀b∈r,nc n j b)/\F r<=9:=by
 have aP:=h.abg cR hi;have ad:=k.len hi;unfold Ki;rw[B7 cR h,zs cR Q,MD cR hi k,zq ax];simp only[c6,cI];have u:∃N,dq (Kk ag) (0,[])=B N:=by
  have:=hk (i:=Kk ag) (ah:=λ_=>True) (λq=>∃g:Nat,q.1=(g:Int)/\g<=F ag/\∀z∈q.2,∃c,∃i:c<F ag,c<g/\z.1=ag[c].c3) (λq=>((F ag:Int)-q.1).toNat) (λq aj=>?_) (q:=(0,[])) ef
  .have⟨N,u,_⟩:=this;exact cU
  .have⟨aa,A⟩:=q;have⟨g,l,af,x⟩:=aj;simp only at l x;subst l;unfold Kk Kj qD;simp only;by_cases d:g<F ag
   .rw[dO,dz d,c6,et d,cI,cI,ep,e7 I];refine⟨λ_=>?_,λ_=>dg.2 (.inl ⟨_,rfl,⟨g+1,rfl,I,λz Y=>?_⟩,ew⟩)⟩
    .have S:pl (λ(a o:c0)=>(c0.fV a o)) A ag[g].c3=Z:=by
      refine Gz λz Y=>?_
      have⟨c,i,aG,aD⟩:=x z Y;have aX:=k.2.jT (j:=c) (m:=g) aG d;rw[aD,t0 cR (k.1 _ (fi d)).1 (k.1 _ (fi i)).1];unfold w6 at aX;exact dr I
     rw[S,v_,c6,dg];refine .inl ⟨_,rfl,⟨g+1,rfl,I,λz Y=>?_⟩,ew⟩;rcases gq.1 Y with Y|Y
     .have⟨c,i,aG,aD⟩:=x z Y;exact⟨c,i,I,aD⟩
     .rw[gO.1 Y];exact⟨g,d,I,rfl⟩
    .have⟨c,i,aG,aD⟩:=x z Y;exact⟨c,i,I,aD⟩
   .rw[dO,dr d,dm];exact dg.2<|.inr ⟨_,rfl,trivial⟩
 have⟨N,u⟩:=u;rw[u,cI];refine de.bind (u:=λr=>(∀b∈r,nc n j b)/\F r<=9) (hk (λq=>∃g:Nat,q.2=(g:Int)/\g<=F s/\(∀b∈q.1,nc n j b)/\F q.1<=g) (λq=>((F s:Int)-q.2).toNat) (λq aj=>?_) ef) λr ay=>dg.2 ay
 have⟨R,aa⟩:=q;have⟨g,l,af,t,P⟩:=aj;simp only at l t P;subst l;unfold Wx yc;simp only;by_cases d:g<F s
 .have cK:=h.1 _ (fi d);rw[dO,dz d,c6,et d,cI,e7 I];have y:∀p:E c0,(p=R\/p=R++[s[g].c3])->de (B (dV (p,((g+1:Nat):Int))):X (((E c0)×Int)⊕(E c0))) λa=>(∃ao,a=.inl ao/\(∃g:Nat,ao.2=(g:Int)/\g<=F s/\(∀b∈ao.1,nc n j b)/\F ao.1<=g)/\((F s:Int)-ao.2).toNat<((F s:Int)-(g:Int)).toNat)\/∃r,a=.inr r/\(∀b∈r,nc n j b)/\F r<=9:=by
   rintro p (rfl|rfl)
   .exact dg.2<|.inl ⟨_,rfl,⟨g+1,rfl,I,t,ew⟩,ew⟩
   .refine dg.2 (.inl ⟨_,rfl,⟨g+1,rfl,I,λb ax=>?_,fv⟩,ew⟩);rcases gq.1 ax with ax|ax
    .exact t b ax
    .rw[gO.1 ax];exact⟨cK.1,cK.2.1⟩
  have D:de ((ej 56 R<|cQ.cL .c_ ([s[g].c3]:E c0)).bind λab=>B (dV (ab,((g+1:Nat):Int)):((E c0)×Int)⊕(E c0))) λa=>(∃ao,a=.inl ao/\(∃g:Nat,ao.2=(g:Int)/\g<=F s/\(∀b∈ao.1,nc n j b)/\F ao.1<=g)/\((F s:Int)-ao.2).toNat<((F s:Int)-(g:Int)).toNat)\/∃r,a=.inr r/\(∀b∈r,nc n j b)/\F r<=9:=by simp only[cQ.cL];rw[i8 fv fv,cI];exact y _ (.inr rfl)
  refine ep.2 ⟨λ_=>y R<|.inl rfl,λ_=>?_⟩;rw[cI];refine ep.2 ⟨λ_=>y R<|.inl rfl,λ_=>ep.2 ⟨λdI=>?_,λ_=>D⟩⟩;have dI:=f8 dI;have e:(F R:Int)-1=((F R-1:Nat):Int):=I;rw[e,mW I,et (dd:F R-1<F R),cI];exact ep.2 ⟨λ_=>y R<|.inl rfl,λ_=>D⟩
 .rw[dO,dr d,dm];exact dg.2<|.inr ⟨_,rfl,t,I⟩
end
def oI(n:Nat)(t:dB):Prop:=kj n t.c3/\0<=t.fU.ff/\t.fU.ff<=65535/\g6 t.fU.dx
def hz(t:dB):Nat:=fC t.c3
def sh(n:Nat)(s:E dB):Prop:=(∀t∈s,oI n t)/\iy hz s
def sh.len{n:Nat}{s:E dB}(h:sh n s):F s<=n:=h.2.len λq aj=>(h.1 q aj).1.lt
def ar8{ag:Type}{f:ag->Nat}{s a:E ag}(h:sG f a)(Y:a.Perm s)(cR:(s.map f).Nodup):iy f a:=by
 have G:(a.map f).Nodup:=(Y.map f).nodup_iff.2 cR;have b:a.Pairwise λt l=>f t≠f l:=sf.1 G
 exact List.Pairwise.imp₂ dd h b
def amE{S am:Type}{ae:S->S->Bool}{s:E (S×am)}{g:S}(h:i2 ae s g=M):∀z∈s,ae g z.1=Z:=by unfold i2 at h;rw[Option.map_eq_none_iff,UP]at h;intro z Y;simpa using h z Y
section
variable{n j:Nat}(cR:n<=4)
include cR
theorem Ry{s:E dB}(h:sh n s):EG s=B T:=by
 have aP:=h.len;unfold EG;rw[dr I];simp only[dm];have:dq (K6 s) 0=B (.inl ()):=by
  refine nr (Q:=F s) (λg af=>?_) ?_
  .unfold K6;have⟨a,b,d,i⟩:=h.1 _ (fi af);rw[dO,dz af,et af,c6,cI,rb cR a,cI,c6,Gw b d,cI,c6,e7 I];by_cases dI:g=0
   .subst dI;rfl
   .rw[dz (dd:(g:Int)>0),(dd:(g:Int)-1=((g-1:Nat):Int)),mW I,et (dd:g-1<F s),c6,cI,tZ cR (h.1 _ (fi _)).1 a,cI];have G:=h.2.jT (j:=g-1) (m:=g) I af;unfold hz at G;rw[dr Lb];rfl
  .unfold K6;rw[dO,dr I];rfl
 rw[this];rfl
theorem aru(hi:j<n){r:fH}(aj:r.hr=fF j)(cK:r.gu=[iN j])(i:pE n j r.hh)(ap:g6 r.dx):de (JT r) λs=>sh n s:=by
 have aB:=i.len hi;unfold JT;have aG:dq (D1 r) (0,[])=B [⟨dst j,⟨r.dx,0⟩⟩]:=by
  have:=MX (i:=D1 r) r.gu (λy=>(⟨⟨y.ed,y.dU,r.hr⟩,⟨r.dx,0⟩⟩:dB)) [] (by rw[cK];simp) (λg af y q=>?_) λy=>?_
  .rw[this,cK,aj];rfl
  .unfold D1 tB;simp only[cQ.cL,iV];rw[cK]at af;simp only[lG]at af;simp only[kv]at q;rw[dO,dz (by rw[cK];simpa using af),c6,et (by rw[cK];simpa using af),cI,cI,i8 fv fv,cI,e7 I]
  .unfold D1;simp only;rw[dO,dr I,dm]
 rw[aG,cI];have aD:dq (JV r) (0,[⟨dst j,⟨r.dx,0⟩⟩])=B ([⟨dst j,⟨r.dx,0⟩⟩]++r.hh.map λe=>(⟨e.c3,e.fU⟩:dB)):=by
  refine MX r.hh _ _ I (λg af y q=>?_) λy=>?_
  .unfold JV;simp only[cQ.cL,iV];simp only[lG]at q;rw[dO,dz af,c6,et af,cI,i8 fv fv,cI,e7 I]
  .unfold JV;simp only;rw[dO,dr I,dm]
 rw[aD,cI];generalize m:([⟨dst j,⟨r.dx,0⟩⟩]++r.hh.map λe=>(⟨e.c3,e.fU⟩:dB))=L;have z:∀an∈L,oI n an:=λan N=>by
  rw[<-m]at N;rcases gq.1 N with N|N
  .rw[gO.1 N];exact⟨⟨j,hi,rfl⟩,(dd:(0:Int)<=0),(dd:(0:Int)<=65535),ap⟩
  .obtain⟨e,p,rfl⟩:=hT.1 N;have⟨P,az,Q,u⟩:=i.1 e p;refine⟨P,?_,?_,Q⟩
   .rcases u with h|h
    .exact h.2.1.1
    .show 0<=e.fU.ff;rw[h.2.1];omega
   .rcases u with h|h
    .have:=h.2.1.2;show e.fU.ff<=65535;omega
    .show e.fU.ff<=65535;rw[h.2.1];omega
 have aC:F L<=12:=by rw[<-m];simp;omega
 have am:(L.map hz).Nodup:=by
  rw[<-m];simp only[hN,hx,jY,List.map_map,zI];refine List.nodup_cons.2 ⟨λd=>?_,?_⟩
  .have⟨e,p,x⟩:=hT.1 d;have ab:=(i.1 e p).2.1;simp only[hz,vF,HA]at x;exact ab x
  .refine sf.2 (List.Pairwise.imp (λ{t l} h=>?_) i.2);unfold w6 at h;simp only[hz,HA];omega
 have ao:∃b,dq (x6 L) (1,L)=B b/\b.Perm L/\sG hz b:=by
  have al:∀(ak:E dB) (o a:dB) (eB:E dB),F ak+F eB<100000->oI n o->oI n a->As (((F ak+1:Nat):Int),ak++o::a::eB)=B (if hz a<hz o then .inl ((F ak:Int),ak++a::o::eB)else .inr<|ak++o::a::eB):=by
   intro ak o a eB aA ad d;unfold As;have au:di (ak++o::a::eB) ((F ak+1:Nat):Int)=B a:=W3;have D:∀(an:dB),di (ak++o::an::eB) (F ak:Int)=B o:=λan=>W4
   have S:U W (((F ak+1:Nat):Int)-1)=(F ak:Int):=by rw[(dd:(((F ak+1:Nat):Int)-1)=(F ak:Int))];exact mW I
   simp only[S,cQ.cL];rw[dz (dd:((F ak+1:Nat):Int)>0),c6,au,D];simp only[cI,gz,gx,FC,rI,T_,T9,D];rw[show JU a o=B (iE (hz a) (hz o))from by unfold JU;rw[tZ cR d.1 ad.1];rfl];simp only[cI];by_cases k:hz a<hz o
   .rw[dE k,dz (pd.2 k)];rfl
   .rw[dA k,dr (λC=>k<|pd.1 C)];rfl
  have ai:∀eH:E dB,As (0,eH)=B (.inr eH):=λeH=>by unfold As;rw[dr (wT:¬((0:Int),eH).1>0),dm]
  cases L with
  |nil=>refine⟨[],mr ?_,HO _,Lc⟩;unfold x6;rw[dr dh,dm]
  |cons a eB=>
   have aw:∀(eH:E dB) (g:Nat),g<F (a::eB)->x6 (a::eB) ((g:Int),eH)=(dq As ((g:Int),eH)).bind λl=>B (.inl (((g+1:Nat):Int),l)):=λeH g af=>by unfold x6;simp only;rw[dO,dz af,c6,e7 I]
   have av:∀eH:E dB,x6 (a::eB) ((F (a::eB):Int),eH)=B (.inr eH):=λeH=>by unfold x6;simp only;rw[dO,dr I,dm]
   exact Sy (f:=hz) al ai aw av I z dh
 have ag:∃v,rn (U cZ (F L:Int))=B v:=by have aa:∀A:Fin 13,(rn<|U cZ ((A.val:Nat):Int)).isSome=T:=lK;exact lb.1<|aa ⟨F L,I⟩
 have⟨b,ax,K,ay⟩:=ao;have aq:dq (JW L) ()=B b:=by refine mr ?_;unfold JW;rw[(dd:(F L:Int)-0=(F L:Int)),mW I,dz I,c6,show(0:Int)+1=((1:Nat):Int) by rfl,mW I];rw[(J:((1:Nat):Int)=1),ax];rfl
 have⟨ah,ar⟩:=ag;rw[ar,cI,aq,cI];unfold PH;exact dg.2 ⟨λt ae=>z t<|K.mem_iff.1 ae,ar8 ay K am⟩
theorem asJ{z:h_}(D:sh n z.fJ)(aR:fy z.oQ){s:E dB}(h:sh n s){K:Int}(ax:fy K):de (K1 z K s) λr=>r.2.2.2=0/\sh n r.1.fJ/\fy r.1.oQ/\(∀t∈r.2.1,oI n t)/\F r.2.1<=12/\r.2.1.Pairwise (λt l=>hz t≠hz l):=by
 have aP:=h.len;have bc:=D.len;have bb:=xo ax 3 I;have aJ:∀{az:Int},fy az->AI az=B T:=λ{az} h=>by unfold AI;rw[dz h.1,dz h.2];rfl
 have aZ:tD s=B s:=by unfold tD;simp only[cQ.cL];rw[yO I I];try rfl
 unfold K1 AH;rw[Ry cR D,aJ aR,Ry cR h,aJ ax,aZ];simp only[c6,cI];have al:∃N,dq (K3 z) (0,[])=B N/\∀c (b:c<F z.fJ),∃e∈N,e.1=z.fJ[c].c3:=by
  have:=hk (i:=K3 z) (ah:=λN=>∀c (b:c<F z.fJ),∃e∈N,e.1=z.fJ[c].c3) (λq=>∃g:Nat,q.1=(g:Int)/\g<=F z.fJ/\(∀e∈q.2,∃c,∃b:c<F z.fJ,c<g/\e.1=z.fJ[c].c3)/\∀c (b:c<F z.fJ),c<g->∃e∈q.2,e.1=z.fJ[c].c3) (λq=>((F z.fJ:Int)-q.1).toNat) (λq aj=>?_) (q:=(0,[])) ef
  .exact this
  .obtain⟨aw,A⟩:=q;obtain⟨g,u,af,P,Q⟩:=aj;simp only at u P Q;subst u;unfold K3;simp only;by_cases i:g<F z.fJ
   .rw[dO,dz i,c6,et i,cI];have aq:pl (λ(a o:c0)=>(c0.fV a o)) A z.fJ[g].c3=Z:=by
     refine Gz λe Y=>?_
     obtain⟨c,b,aG,aD⟩:=P e Y;have aX:=D.2.jT (j:=c) (m:=g) aG i;rw[aD,t0 cR (D.1 _ (fi i)).1 (D.1 _ (fi b)).1];unfold hz at aX;exact dr I
    rw[aq,v_,c6,dg,e7 I];refine .inl ⟨_,rfl,⟨g+1,rfl,I,λe Y=>?_,λc b aY=>?_⟩,ew⟩
    .rcases gq.1 Y with Y|Y
     .obtain⟨c,b,aG,aD⟩:=P e Y;exact⟨c,b,I,aD⟩
     .rw[gO.1 Y];exact⟨g,i,I,rfl⟩
    .by_cases ap:c<g
     .obtain⟨e,aG,aD⟩:=Q c b ap;exact⟨e,gq.2<|.inl aG,aD⟩
     .have:c=g:=by omega
      subst this;exact⟨_,gq.2<|.inr<|gO.2 rfl,rfl⟩
   .rw[dO,dr i,dm];exact dg.2 (.inr ⟨_,rfl,λc b=>Q c b I⟩)
 have am:∃N,dq (K4 s) (0,[])=B N/\∀c (b:c<F s),∃e∈N,e.1=s[c].c3:=by
  have:=hk (i:=K4 s) (ah:=λN=>∀c (b:c<F s),∃e∈N,e.1=s[c].c3) (λq=>∃g:Nat,q.1=(g:Int)/\g<=F s/\(∀e∈q.2,∃c,∃b:c<F s,c<g/\e.1=s[c].c3)/\∀c (b:c<F s),c<g->∃e∈q.2,e.1=s[c].c3) (λq=>((F s:Int)-q.1).toNat) (λq aj=>?_) (q:=(0,[])) ef
  .exact this
  .obtain⟨aw,A⟩:=q;obtain⟨g,u,af,P,Q⟩:=aj;simp only at u P Q;subst u;unfold K4;simp only;by_cases i:g<F s
   .rw[dO,dz i,c6,et i,cI];have aq:pl (λ(a o:c0)=>(c0.fV a o)) A s[g].c3=Z:=by
     refine Gz λe Y=>?_
     obtain⟨c,b,aG,aD⟩:=P e Y;have aX:=h.2.jT (j:=c) (m:=g) aG i;rw[aD,t0 cR (h.1 _ (fi i)).1 (h.1 _ (fi b)).1];unfold hz at aX;exact dr I
    rw[aq,v_,c6,dg,e7 I];refine .inl ⟨_,rfl,⟨g+1,rfl,I,λe Y=>?_,λc b aY=>?_⟩,ew⟩
    .rcases gq.1 Y with Y|Y
     .obtain⟨c,b,aG,aD⟩:=P e Y;exact⟨c,b,I,aD⟩
     .rw[gO.1 Y];exact⟨g,i,I,rfl⟩
    .by_cases ap:c<g
     .obtain⟨e,aG,aD⟩:=Q c b ap;exact⟨e,gq.2<|.inl aG,aD⟩
     .have:c=g:=by omega
      subst this;exact⟨_,gq.2<|.inr<|gO.2 rfl,rfl⟩
   .rw[dO,dr i,dm];exact dg.2 (.inr ⟨_,rfl,λc b=>Q c b I⟩)
 obtain⟨a_,al,_⟩:=al;obtain⟨aM,am,aQ⟩:=am;have key:∀(aF:Bool) (v:Int),fy v->de (EE z s s (aF,v)) λr=>r.2.2.2=0/\sh n r.1.fJ/\fy r.1.oQ/\(∀t∈r.2.1,oI n t)/\F r.2.1<=12/\r.2.1.Pairwise (λt l=>hz t≠hz l):=by
  intro aF v ab;unfold EE;rw[al,cI,am,cI];refine de.bind (u:=λy=>y.Sublist s) (hk (λq=>∃g:Nat,q.2.1=(g:Int)/\g<=F s/\q.2.2.Sublist (s.take g)) (λq=>((F s:Int)-q.2.1).toNat) (λq aj=>?_) ef) λy cK=>?_
  .obtain⟨l,aw,y⟩:=q;obtain⟨g,u,af,x⟩:=aj;simp only at u x;subst u;have aB:F y<=g:=by have:=x.length_le;simp at this;omega
   unfold WR ys;simp only;by_cases i:g<F s
   .rw[dO,dz i,c6,et i,cI,cI,e7 I];have S:∀(aA:Bool) (ae:E dB),(ae=y\/ae=y++[s[g]])->de (B (dV (aA,((g+1:Nat):Int),ae)):X ((Bool×Int×(E dB))⊕(E dB))) λa=>(∃ao,a=.inl ao/\(∃g:Nat,ao.2.1=(g:Int)/\g<=F s/\ao.2.2.Sublist (s.take g))/\((F s:Int)-ao.2.1).toNat<((F s:Int)-(g:Int)).toNat)\/∃r,a=.inr r/\r.Sublist s:=by
     rintro aA ae (rfl|rfl)
     .exact dg.2<|.inl ⟨_,rfl,⟨g+1,rfl,I,x.trans<|List.take_sublist_take_left I⟩,ew⟩
     .refine dg.2 (.inl ⟨_,rfl,⟨g+1,rfl,I,?_⟩,ew⟩);simp only;rw[xI,e6 i];exact x.append<|xM _
    simp only[cQ.cL,iV];rw[i8 fv fv];simp only[cI];exact ep.2 ⟨λ_=>S _ _ (.inr rfl),λ_=>ep.2 ⟨λ_=>ep.2 ⟨λ_=>S _ _ (.inl rfl),λ_=>S _ _ (.inr rfl)⟩,λ_=>ep.2 ⟨λ_=>S _ _ (.inr rfl),λ_=>S _ _ (.inl rfl)⟩⟩⟩
   .rw[dO,dr i,dm];exact dg.2<|.inr ⟨_,rfl,x.trans<|Cq _ _⟩
  refine de.bind (u:=λy=>(∀t∈y,oI n t)/\F y<=12/\y.Pairwise λt l=>hz t≠hz l) (hk (λq=>∃g:Nat,q.1=(g:Int)/\g<=F z.fJ/\(∀t∈q.2,oI n t)/\F q.2<=F s+g/\q.2.Pairwise (λt l=>hz t≠hz l)/\∀t∈q.2,(∃c,∃b:c<F s,hz t=hz s[c])\/∃c,∃b:c<F z.fJ,c<g/\hz t=hz z.fJ[c]) (λq=>((F z.fJ:Int)-q.1).toNat) (λq aj=>?_) ⟨0,rfl,I,λt k=>h.1 t<|cK.subset k,by have:=cK.length_le;simpa using this,(h.2.sub cK).imp λC=>Nat.ne_of_lt C,λt k=>by obtain⟨c,b,rfl⟩:=mf.1<|cK.subset k;exact .inl ⟨c,b,rfl⟩⟩) λL aS=>?_
  .obtain⟨aw,y⟩:=q;obtain⟨g,u,af,x,aB,aa,ai⟩:=aj;simp only at u x aB aa ai;subst u;unfold WS EF;simp only;by_cases i:g<F z.fJ
   .have av:=D.1 _ (fi i);rw[dO,dz i,c6,et i,cI,cI,e7 I];have aE:∀t∈y,(∃c,∃b:c<F s,hz t=hz s[c])\/∃c,∃b:c<F z.fJ,c<g+1/\hz t=hz z.fJ[c]:=λt k=>by
     rcases ai t k with C|⟨c,b,aC,au⟩
     .exact .inl C
     .exact .inr ⟨c,b,I,au⟩
    have gJ:de (B (dV (((g+1:Nat):Int),y)):X ((Int×(E dB))⊕(E dB))) λa=>((∃ao,a=.inl ao/\(∃g:Nat,ao.1=(g:Int)/\g<=F z.fJ/\(∀t∈ao.2,oI n t)/\F ao.2<=F s+g/\ao.2.Pairwise (λt l=>hz t≠hz l)/\∀t∈ao.2,(∃c,∃b:c<F s,hz t=hz s[c])\/∃c,∃b:c<F z.fJ,c<g/\hz t=hz z.fJ[c])/\((F z.fJ:Int)-ao.1).toNat<((F z.fJ:Int)-(g:Int)).toNat)\/∃r,a=.inr r/\(∀t∈r,oI n t)/\F r<=12/\r.Pairwise λt l=>hz t≠hz l):=dg.2 (.inl ⟨_,rfl,⟨g+1,rfl,I,x,ew,aa,aE⟩,ew⟩)
    have a8:i2 (λ(a o:c0)=>(c0.fV a o)) aM z.fJ[g].c3=M->de (B (dV (((g+1:Nat):Int),y++[{z.fJ[g]with fU.ff:=65535}])):X ((Int×(E dB))⊕(E dB))) λa=>((∃ao,a=.inl ao/\(∃g:Nat,ao.1=(g:Int)/\g<=F z.fJ/\(∀t∈ao.2,oI n t)/\F ao.2<=F s+g/\ao.2.Pairwise (λt l=>hz t≠hz l)/\∀t∈ao.2,(∃c,∃b:c<F s,hz t=hz s[c])\/∃c,∃b:c<F z.fJ,c<g/\hz t=hz z.fJ[c])/\((F z.fJ:Int)-ao.1).toNat<((F z.fJ:Int)-(g:Int)).toNat)\/∃r,a=.inr r/\(∀t∈r,oI n t)/\F r<=12/\r.Pairwise λt l=>hz t≠hz l):=λar=>by
     refine dg.2 (.inl ⟨_,rfl,⟨g+1,rfl,I,λt k=>?_,fv,?_,λt k=>?_⟩,ew⟩)
     .rcases gq.1 k with k|k
      .exact x t k
      .rw[gO.1 k];exact⟨av.1,(dd:(0:Int)<=65535),(dd:(65535:Int)<=65535),av.2.2.2⟩
     .refine py.2 ⟨aa,dh,λt k l aU=>?_⟩;rw[gO.1 aU];show hz t≠hz z.fJ[g];rcases ai t k with⟨c,b,C⟩|⟨c,b,aC,au⟩
      .rw[C];intro aL;obtain⟨e,aG,aD⟩:=aQ c b;have:=amE ar e aG;rw[aD,t0 cR av.1 (h.1 _ (fi b)).1]at this;unfold hz at aL;rw[dz aL.symm]at this;cases this
      .have:=D.2.jT aC i;omega
     .rcases gq.1 k with k|k
      .exact aE t k
      .rw[gO.1 k];exact .inr ⟨g,i,I,rfl⟩
    simp only[cQ.cL,iV];rw[i8 fv fv];simp only[cI];exact ep.2 ⟨λ_=>gJ,λar=>ep.2 ⟨λ_=>a8 (by simpa using ar),λ_=>gJ⟩⟩
   .rw[dO,dr i,dm];exact dg.2<|.inr ⟨_,rfl,x,W7,aa⟩
  obtain⟨aI,aH,aT⟩:=aS;have a2:∃p,dq (yt L) (1,L)=B p/\p.Perm L/\sG hz p:=by
   have a1:∀(ak:E dB) (o a:dB) (eB:E dB),F ak+F eB<100000->oI n o->oI n a->AG (((F ak+1:Nat):Int),ak++o::a::eB)=B (if hz a<hz o then .inl ((F ak:Int),ak++a::o::eB)else .inr<|ak++o::a::eB):=by
    intro ak o a eB ba ad d;unfold AG;have a5:di (ak++o::a::eB) ((F ak+1:Nat):Int)=B a:=W3;have aK:∀(an:dB),di (ak++o::an::eB) (F ak:Int)=B o:=λan=>W4
    have aN:U W (((F ak+1:Nat):Int)-1)=(F ak:Int):=by rw[(dd:(((F ak+1:Nat):Int)-1)=(F ak:Int))];exact mW I
    simp only[aN,cQ.cL];rw[dz (dd:((F ak+1:Nat):Int)>0),c6,a5,aK];simp only[cI,gz,gx,FC,rI,T_,T9,aK];rw[show K2 a o=B (iE (hz a) (hz o))from by unfold K2;rw[tZ cR d.1 ad.1];rfl];simp only[cI];by_cases b:hz a<hz o
    .rw[dE b,dz (pd.2 b)];rfl
    .rw[dA b,dr (λC=>b<|pd.1 C)];rfl
   have a0:∀eH:E dB,AG (0,eH)=B (.inr eH):=λeH=>by unfold AG;rw[dr (wT:¬((0:Int),eH).1>0),dm]
   cases L with
   |nil=>refine⟨[],mr ?_,HO _,Lc⟩;unfold yt;rw[dr dh,dm]
   |cons a eB=>
    have a7:∀(eH:E dB) (g:Nat),g<F (a::eB)->yt (a::eB) ((g:Int),eH)=(dq AG ((g:Int),eH)).bind λl=>B (.inl (((g+1:Nat):Int),l)):=λeH g af=>by unfold yt;simp only;rw[dO,dz af,c6,e7 I]
    have a6:∀eH:E dB,yt (a::eB) ((F (a::eB):Int),eH)=B (.inr eH):=λeH=>by unfold yt;simp only;rw[dO,dr I,dm]
    exact Sy (f:=hz) a1 a0 a7 a6 I aI dh
  have aV:∃v,rn (U cZ (F L:Int))=B v:=by have aO:∀A:Fin 13,(rn<|U cZ ((A.val:Nat):Int)).isSome=T:=lK;exact lb.1<|aO ⟨F L,I⟩
  obtain⟨p,a9,ag,bf⟩:=a2;have a3:dq (K5 L) ()=B p:=by refine mr ?_;unfold K5;rw[(dd:(F L:Int)-0=(F L:Int)),mW I,dz I,c6,show(0:Int)+1=((1:Nat):Int) by rfl,mW I];rw[(J:((1:Nat):Int)=1),a9];rfl
  obtain⟨ah,a4⟩:=aV;rw[a4,cI,a3,cI];unfold Qq Qb Qc;have aW:∃a,dq (KK p) 0=B a:=by
   have bd:F p<=12:=by rw[ag.length_eq];exact aH
   have:=hk (i:=KK p) (ah:=λ_=>True) (λq=>∃g:Nat,q=(g:Int)/\g<=F p) (λq=>((F p:Int)-q).toNat) (λq aj=>?_) (q:=0) ⟨0,rfl,I⟩
   .obtain⟨a,d,_⟩:=this;exact⟨a,d⟩
   .obtain⟨g,rfl,af⟩:=aj;unfold KK Qp;by_cases i:g<F p
    .rw[dO,dz i,c6,et i,cI,cI,e7 I];exact ep.2 ⟨λ_=>dg.2<|.inr ⟨_,rfl,trivial⟩,λ_=>dg.2<|.inl ⟨_,rfl,⟨g+1,rfl,I⟩,I⟩⟩
    .rw[dO,dr i,dm];exact dg.2<|.inr ⟨_,rfl,trivial⟩
  obtain⟨a,d⟩:=aW;rw[d,cI];have ay:∃o,ku (λ(_:Unit)=>B (-1:Int)) (λlZ=>B lZ) a=B o:=by cases a<;>exact⟨_,rfl⟩
  obtain⟨o,ad⟩:=ay;rw[ad,cI,cI,dg];exact⟨rfl,h,ab,λt k=>aI t<|ag.mem_iff.1 k,by simp only;rw[ag.length_eq];exact aH,ag.symm.pairwise aT λC=>C.symm⟩
 rw[ep];exact cU
end
def wa:c0:=⟨⟨jX,0⟩,⟨jX,0⟩,0⟩
inductive od(n:Nat):d9->Prop
 |lU (C:Int) (h:g6 C):od n ⟨1,C,0,0,wa,0⟩
 |ot (A:Int) (g:Nat) (h:0<=A/\A<=65535) (af:g<n):od n ⟨2,0,A,fF g,wa,0⟩
 |fo (C A:Int) (a:c0) (h:g6 C) (d:0<=A/\A<=65535) (ax:kj n a):od n ⟨3,C,A,0,a,0⟩
 |jp (C:Int) (a:c0) (c:Int) (h:g6 C) (ax:kj n a) (b:1<=c/\c<=32):od n ⟨5,C,0,0,a,c⟩
def vh(s:E d9):Prop:=s.Pairwise λt l=>t.gi=3->l.gi=3->fC t.c3≠fC l.c3
def nC(n:Nat)(a:d9):Prop:=od n a/\a.gi≠3
theorem nC.te{n:Nat}{s:E d9}(h:∀a∈s,nC n a):vh s:=by unfold vh;rw[List.pairwise_iff_forall_sublist];intro t l aj C;exact absurd C (h t ef).2
def nT(n j:Nat)(q:hq):Prop:=(q.c3=0\/hQ n j q.c3)/\(∀a∈q.EQ,od n a)/\F q.EQ<=100/\vh q.EQ
def EL(n j:Nat)(t:fh):Prop:=hQ n j t.eb/\qf t.iQ/\fy t.ge/\fy t.uA
def m6(t:fh):Nat:=hX t.eb
def mB(n j:Nat)(s:E fh):Prop:=(∀t∈s,EL n j t)/\iy m6 s
def mB.len{n j:Nat}{s:E fh}(h:mB n j s):F s<=n:=h.2.len λy cK=>(h.1 y cK).1.lt
structure m2(n j:Nat)(r:fH):Prop where
 self:r.hr=fF j
 iN:r.gu=[iN j]
 seq:g6 r.dx
 vV:fy r.j7
 quiet:fy r.gH
 lU:g6 r.i3
 next:fy r.jk
 mq:mB n j r.eg
 kJ:jJ n r.gT
 rZ:kk n j r.gX
 kF:pE n j r.hh
 jp:j8 n r.hj
 tb:sh n r.gI.fJ
 t4:fy r.gI.oQ
def MO{K:Int}(ax:fy K)(i:Nat)(a:i<1000):∃v,wv K (i:Int)=B v/\fy v:=⟨_,rfl,xo ax i a⟩
section
variable{n j:Nat}(cR:n<=4)(hi:j<n)
section
variable{s:E fh}
include cR
theorem SQ(h:mB n j s){a:Int}(ax:hQ n j a):KD s a=B ((dn m6 s (hX a):Int),decide (kq m6 s (hX a))):=by
 unfold KD;have aP:=h.len;have i:∀g (af:g<F s),D5 s[g] a=B (iE (m6 s[g])<|hX a):=λg af=>by unfold D5;have G:=(h.1 _ (fi af)).1;have aG:=G.lt;have aD:=ax.lt;rw[G.lS,ax.lS,ZT I I];simp only[m6,cI];rw[G.lS,rR,rR]
 have Y:=s7 h.2<|hX a;have m:=rW (f:=m6) s<|hX a;rw[L1 (F s) (dn m6 s (hX a)) m (λt l k aw=>?_) λt=>?_]
 .simp only[cI];unfold kq;by_cases ap:dn m6 s (hX a)<F s
  .rw[dO,dz ap,et ap,c6,cI,i _ ap,cI,L8];simp[ap]
  .rw[dO,dr ap,dm];simp[ap]
 .unfold PY;have b:(t+l)/2<F s:=I;simp only;rw[dO,dz k,M0 I,et b,c6,cI,i _ b,cI,e7 I];have:=Y _ b;by_cases d:(t+l)/2<dn m6 s (hX a)
  .rw[dE d,dz (pd.2 (this.2 d))];rfl
  .rw[dA d,dr (λC=>d<|this.1<|pd.1 C)];rfl
 .unfold PY;simp only;rw[dO,dr I];rfl
end
include cR
theorem aq4{q:fP}(h:mB n j q.r.eg)(ax:fy q.now)(u:hQ n j q.jS)(a:d9):de (J5 q a) λs=>mB n j s:=by
 have aP:=h.len;have i:=rW (f:=m6) q.r.eg<|hX q.jS;have⟨v,ab,y⟩:=MO ax 5 I;rw[(J:((5:Nat):Int)=5)]at ab;unfold J5 x7;rw[SQ cR h u,cI,cI];have b:∀(L:E fh) (z:Nat) (Y:z<F L),F L<=5->(∀C (ap:C<F L),C≠z->EL n j L[C])->iy m6 L->hQ n j L[z].eb->u7 L[z].iQ->fy L[z].uA->de (D4 ((z:Int),decide (kq m6 q.r.eg<|hX q.jS)) a q L) λs=>mB n j s:=by
  intro L z Y A G k l m o;unfold D4;simp only[cQ.cL,et Y,cI,gz,gx,e6 Y];refine(aqT m).bind λC ap=>?_
  rw[ab,cI,e6 cU,cI,dg];simp only[Vw,Vx];refine⟨λt d=>?_,k.put Y rfl⟩;rw[mf]at d;obtain⟨c,g,rfl⟩:=d;rw[v9];simp only[sb]at g;split
  .exact⟨l,ap,y,o⟩
  next aR=>exact G c g λC=>aR C.symm
 by_cases ap:kq m6 q.r.eg (hX q.jS)
 .simp only;rw[dz ap,c6];have x:=ap;have⟨Y,D⟩:=ap;have cK:=h.1 _ (fi Y);have:=b q.r.eg _ Y I (λC ap _=>h.1 _ cU) h.2 cK.1 (.inr cK.2.1) cK.2.2.2;rwa[dz x]at this
 .simp only;rw[dr ap,dm,dr I,dm,Gf i I I,cI];have Y:dn m6 q.r.eg (hX q.jS)<F (q.r.eg.take (dn m6 q.r.eg<|hX q.jS)++[(⟨q.jS,⟨Z,0,0,0,0⟩,0,q.now⟩:fh)]++q.r.eg.drop (dn m6 q.r.eg<|hX q.jS)):=by rw[amb i];omega
  have p:(q.r.eg.take (dn m6 q.r.eg<|hX q.jS)++[(⟨q.jS,⟨Z,0,0,0,0⟩,0,q.now⟩:fh)]++q.r.eg.drop (dn m6 q.r.eg<|hX q.jS))[dn m6 q.r.eg (hX q.jS)]'Y=⟨q.jS,⟨Z,0,0,0,0⟩,0,q.now⟩:=by rw[OA cU,Vy cU];simp
  have:=b _ _ Y ef (λC ap aR=>?_) (h.2.Gg (a:=⟨q.jS,⟨Z,0,0,0,0⟩,0,q.now⟩) ap) cU (by rw[p];exact .inl rfl) cU
  .rwa[dr ap]at this
  .rcases la C (dn m6 q.r.eg (hX q.jS))with G|G
   .rw[OA fv,OA fv,uw];exact h.1 _ (fi _)
   .rw[Vy fv,Ot];exact h.1 _ (fi _)
theorem aq3{q:fP}(h:mB n j q.r.eg)(ax:fy q.now)(g:hQ n j q.jS)(a:d9):de (J4 q a) λs=>mB n j s:=by
 have aP:=h.len;have⟨v,ab,i⟩:=MO ax 9 I;rw[(J:((9:Nat):Int)=9)]at ab;unfold J4 x7;rw[SQ cR h g,cI,cI];by_cases ap:kq m6 q.r.eg (hX q.jS)
 .simp only;rw[dz ap,c6];have⟨Y,k⟩:=ap;have cK:=h.1 _ (fi Y);refine ep.2 ⟨λ_=>dg.2 h,λ_=>?_⟩;simp only[cQ.cL,et Y,cI,gz,gx,e6 Y];refine(ad1 (.inr cK.2.1) _).bind λC ap=>?_
  rw[ab,cI,e6 QB,cI,dg];simp only[Vw,Vx];refine⟨λt d=>?_,h.2.put Y rfl⟩;rcases xH d with b|rfl
  .exact h.1 t b
  .exact⟨cK.1,ap.2 cK.2.1,cK.2.2.1,i⟩
 .simp only;rw[dr ap,dm];exact dg.2 h
def aq5{q:fP}(h:m2 n j q.r)(ax:fy q.now)(b:hQ n j q.jS){a:d9}(d:kj n a.c3)(g:0<=a.ff/\a.ff<=65535)(aj:g6 a.dx):de (J6 q a) λs=>kk n j s:=by
 unfold J6 x7;rw[SQ cR h.mq b,cI,cI];refine ep.2 ⟨λ_=>ep.2 ⟨λ_=>dg.2 h.rZ,λG=>?_⟩,λ_=>dg.2 h.rZ⟩;have aR:fC a.c3≠j:=λC=>by rw[d.lS,C,h.self]at G;simp[dst]at G
 refine(arz cR h.rZ ax d aR b (i:=⟨a.dx,a.ff⟩) g.1 g.2 aj).bind λr ay=>?_
 rw[ay.1];exact dg.2 ay.2
theorem ad5{q:fP}(z:jJ n q.r.gT)(ax:fy q.now){s:E dB}(h:∀t∈s,oI n t)(cN:F s<=100):de (D2 q s) λr=>r.1=s/\jJ n r.2:=by
 unfold D2;refine de.bind (u:=λr=>r.1=s/\jJ n r.2) (hk (λa=>∃g:Nat,a.2.1=(g:Int)/\g<=F s/\a.1=s.take g/\jJ n a.2.2) (λa=>((F s:Int)-a.2.1).toNat) (λa d=>?_) ef) λr ay=>dg.2 ay
 have⟨y,A,u⟩:=a;have⟨g,k,af,j,i⟩:=d;simp only at k j i;subst k;subst j;unfold Wn JY;simp only;by_cases b:g<F s
 .have⟨m,o,x,p⟩:=h _ (fi b);have l:s.take (g+1)=s.take g++[s[g]]:=ta<|e6 b;rw[dO,dz b,c6,et b,cI,e7 I];simp only[cQ.cL];rw[i8 fv fv];simp only[cI];refine ep.2 ⟨λG=>?_,λ_=>dg.2<|.inl ⟨_,rfl,⟨g+1,rfl,I,l.symm,i⟩,ew⟩⟩;refine(ar6 cR i ax m ⟨o,by have:=(show s[g].fU.ff≠65535 by simpa using G);omega⟩ p).bind λr ay=>?_
  rw[ay.1];exact dg.2<|.inl ⟨_,rfl,⟨g+1,rfl,I,l.symm,ay.2⟩,ew⟩
 .rw[dO,dr b,dm];have:g=F s:=I;subst this;exact dg.2<|.inr ⟨_,rfl,iV,i⟩
omit cR in
def ai8(q:fP)(s:E dB):PI q s=D2 q s:=rfl
theorem aqW{q:fP}(g:jJ n q.r.gT)(ax:fy q.now)(k:hQ n j q.jS){t:dB}(h:oI n t)(cN:F q.ic<=100):de (J0 q [t]) λr=>jJ n r.1/\∃i,nT n j i/\r.2=q.ic++[i]:=by
 unfold J0;refine(ad5 cR g ax (s:=[t]) cU dh).bind λr ay=>?_
 have e:dq (At r) ([],0)=B [⟨3,t.fU.dx,t.fU.ff,0,t.c3,0⟩]:=by
  have G:At r ([],0)=B (.inl ([⟨3,t.fU.dx,t.fU.ff,0,t.c3,0⟩],1)):=by unfold At Ea;rw[ay.1];rfl
  have b:At r ([⟨3,t.fU.dx,t.fU.ff,0,t.c3,0⟩],1)=B (.inr [⟨3,t.fU.dx,t.fU.ff,0,t.c3,0⟩]):=by unfold At;rw[ay.1];rfl
  rw[pX G,mr b]
 rw[e,cI];simp only[cQ.cL];rw[dz cU,c6,i8 ef ef,cI,dg];refine⟨ay.2,_,⟨.inr k,λa d=>?_,dh,by simp[vh]⟩,rfl⟩;rw[gO.1 d];exact .fo _ _ _ h.2.2.2 ⟨h.2.1,h.2.2.1⟩ h.1
theorem aq_{q:fP}(h:kk n j q.r.gX){m:c0}{e:Int}(z:e=0\/hQ n j e):de (Au q m e) λa=>a=0\/hQ n j a:=by
 have aP:=h.len cR;have eQ:∀(i:Int×Int×Int->X ((Int×Int×Int)⊕Int)),(∀(t l:Int) (g:Nat) (af:g<F q.r.gX),∃b o,(b=t\/b=q.r.gX[g].eb)/\i (t,l,(g:Int))=B (.inl (b,o,((g+1:Nat):Int))))->(∀t l,i (t,l,(F q.r.gX:Int))=B (.inr t))->de (dq i (0,65535,0)) λa=>a=0\/hQ n j a:=by
  intro i G u;refine hk (λa=>∃g:Nat,a.2.2=(g:Int)/\g<=F q.r.gX/\(a.1=0\/hQ n j a.1)) (λa=>((F q.r.gX:Int)-a.2.2).toNat) (λa d=>?_) ef;have⟨t,l,A⟩:=a;have⟨g,p,af,k⟩:=d;simp only at p k;subst p;by_cases s:g<F q.r.gX
  .have⟨b,o,x,y⟩:=G t l g s;refine de.p1 y<|.inl ⟨_,rfl,⟨g+1,rfl,I,?_⟩,ew⟩;rcases x with rfl|rfl
   .exact k
   .exact .inr (h.1 _ (fi s)).2.2.1
  .have:g=F q.r.gX:=by omega
   subst this;exact de.p1 (u t l)<|.inr ⟨_,rfl,k⟩
 unfold Au;refine ep.2 ⟨λdI=>ep.2 ⟨λ_=>dg.2 z,λ_=>?_⟩,λ_=>?_⟩
 .refine(eQ _ (λt l g af=>?_) λt l=>?_).bind λr ay=>dg.2 ay
  .unfold PK x8;simp only;rw[dO,dz af,c6,et af,cI,e7 I];cases c0.fV q.r.gX[g].c3 m<;>cases decide (q.r.gX[g].ge>q.now)<;>cases(q.r.gX[g].eb !=q.jS)<;>cases decide (q.r.gX[g].mF.ff<l)<;>first|exact⟨_,_,.inl rfl,rfl⟩|exact⟨_,_,.inr rfl,rfl⟩
  .unfold PK;simp only;rw[dO,dr I,dm]
 .refine(eQ _ (λt l g af=>?_) λt l=>?_).bind λr ay=>dg.2 ay
  .unfold PL x9;simp only;rw[dO,dz af,c6,et af,cI,e7 I];cases c0.fV q.r.gX[g].c3 m<;>cases decide (q.r.gX[g].ge>q.now)<;>cases(q.r.gX[g].eb !=q.jS)<;>cases decide (q.r.gX[g].mF.ff<l)<;>first|exact⟨_,_,.inl rfl,rfl⟩|exact⟨_,_,.inr rfl,rfl⟩
  .unfold PL;simp only;rw[dO,dr I,dm]
include hi in
theorem aqZ{q:fP}(h:m2 n j q.r)(ax:fy q.now)(x:hQ n j q.jS){a:d9}(d:kj n a.c3)(aj:g6 a.dx)(aa:a.e3<=32)(cN:F q.ic<=100):de (J1 q a) λr=>g6 r.1/\fy r.2.1/\jJ n r.2.2.1/\j8 n r.2.2.2.1/\(r.2.2.2.2=q.ic\/∃i,nT n j i/\r.2.2.2.2=q.ic++[i]):=by
 have S:=h.kF.len hi;have N:∀v,de (D3 q a v) λr=>g6 r.1/\fy r.2.1/\jJ n r.2.2.1/\j8 n r.2.2.2.1/\(r.2.2.2.2=q.ic\/∃i,nT n j i/\r.2.2.2.2=q.ic++[i]):=by
  intro v;unfold D3;have gJ:de (B (q.r.dx,q.r.j7,q.r.gT,q.r.hj,q.ic)) λr:Int×Int×(E eh)×(E eq)×(E hq)=>g6 r.1/\fy r.2.1/\jJ n r.2.2.1/\j8 n r.2.2.2.1/\(r.2.2.2.2=q.ic\/∃i,nT n j i/\r.2.2.2.2=q.ic++[i]):=dg.2 ⟨h.seq,h.vV,h.kJ,h.jp,.inl rfl⟩
  refine ep.2 ⟨λ_=>?_,λ_=>?_⟩
  .unfold PU;rw[sJ,sJ];refine(Hf _ _).mono λl _=>ep.2 ⟨λ_=>dg.2 (ep.2 ⟨λ_=>dg.2 ⟨aj,ax,h.kJ,h.jp,.inl rfl⟩,λ_=>gJ⟩),λ_=>dg.2 (ep.2 ⟨λ_=>dg.2 ⟨h.seq,ax,h.kJ,h.jp,.inl rfl⟩,λ_=>gJ⟩)⟩
  .refine de.bind (u:=λe:dH=>e.eb=0\/pF n j e) (hk (λo=>∃g:Nat,o.1=(g:Int)/\g<=F q.r.hh/\(o.2.eb=0\/pF n j o.2)) (λo=>((F q.r.hh:Int)-o.1).toNat) (λo ad=>?_) ⟨0,rfl,I,.inl rfl⟩) λe u=>?_
   .have⟨ag,e⟩:=o;have⟨g,y,af,s⟩:=ad;simp only at y s;subst y;unfold Wq J2;simp only;by_cases k:g<F q.r.hh
    .rw[dO,dz k,c6,et k,cI,e7 I];exact ep.2 ⟨λ_=>dg.2<|.inl ⟨_,rfl,⟨g+1,rfl,I,.inr<|h.kF.1 _ (fi k)⟩,ew⟩,λ_=>dg.2<|.inl ⟨_,rfl,⟨g+1,rfl,I,s⟩,ew⟩⟩
    .rw[dO,dr k,dm];exact dg.2<|.inr ⟨_,rfl,s⟩
   .have A:e.eb=0\/hQ n j e.eb:=by
     rcases u with G|G
     .exact .inl G
     .rcases G.2.2.2 with b|b
      .exact .inr b.1
      .exact .inl b.1
    have t:de (bif (decide (a.e3<=1))then B ((q.r.dx,q.r.j7,q.r.gT,q.r.hj,q.ic))else(x3 q.r.hj q.now a.c3 a.dx (U W<|a.e3-1) q.jS).bind λm=>bif (m.2.2 !=0)then B ((q.r.dx,q.r.j7,q.r.gT,q.r.hj,q.ic))else(Au ({q with r.hj:=m.1}) a.c3 e.eb).bind λz=>bif m.2.1 then bif (z !=0)then(uT a.c3 a.dx<|U W<|a.e3-1).bind λQ=>(ej 32 q.ic<|cQ.cL .c_ ([(hq.mk z ([Q]:E d9))]:E hq)).bind λP=>B ((q.r.dx,q.r.j7,q.r.gT,m.1,P))else B ((q.r.dx,q.r.j7,q.r.gT,m.1,q.ic))else B<|(q.r.dx,q.r.j7,q.r.gT,m.1,q.ic)) λr:Int×Int×(E eh)×(E eq)×(E hq)=>g6 r.1/\fy r.2.1/\jJ n r.2.2.1/\j8 n r.2.2.2.1/\(r.2.2.2.2=q.ic\/∃i,nT n j i/\r.2.2.2.2=q.ic++[i]):=by
     refine ep.2 ⟨λ_=>gJ,λG=>?_⟩;have G:=of_decide_eq_false G;rw[show U W (a.e3-1)=a.e3-1 from fx I I];refine(aeh cR h.jp ax d aj I I (by have⟨g,af,_,D⟩:=x;exact .inr ⟨g,af,D⟩)).bind λv ab=>?_
     rw[ab.1];refine ep.2 ⟨λC=>lL,λ_=>(aq_ cR (q:={q with r.hj:=v.1}) h.rZ A).bind λw K=>ep.2 ⟨λ_=>ep.2 ⟨λb=>?_,λ_=>dg.2 ⟨h.seq,h.vV,h.kJ,ab.2,.inl rfl⟩⟩,λ_=>dg.2 ⟨h.seq,h.vV,h.kJ,ab.2,.inl rfl⟩⟩⟩;unfold uT;simp only[cQ.cL,cI];rw[i8 fv fv,cI];refine dg.2 ⟨h.seq,h.vV,h.kJ,ab.2,.inr ⟨_,⟨.inr<|K.resolve_left rz,λo ad=>?_,dh,by simp[vh]⟩,rfl⟩⟩;rw[gO.1 ad];exact .jp _ _ _ aj d ⟨I,I⟩
    refine ep.2 ⟨λG=>(Hf _ _).bind λl _=>ep.2 ⟨λ_=>t,λ_=>?_⟩,λ_=>t⟩;have p:pF n j e:=u.resolve_left wF;refine(aqW cR h.kJ ax x (t:=⟨e.c3,e.fU⟩) ⟨p.1,?_,?_,p.2.2.1⟩ cN).bind λr ay=>dg.2 ⟨h.seq,h.vV,ay.1,h.jp,.inr ay.2⟩
    .rcases p.2.2.2 with b|b
     .exact b.2.1.1
     .show 0<=e.fU.ff;rw[b.2.1];omega
    .rcases p.2.2.2 with b|b
     .have:=b.2.1.2;show e.fU.ff<=65535;omega
     .show e.fU.ff<=65535;rw[b.2.1];omega
 unfold J1;refine de.bind (u:=λ_=>True) (hk (λo=>∃g:Nat,o=(g:Int)/\g<=F q.r.gu) (λo=>((F q.r.gu:Int)-o).toNat) (λo ad=>?_) ef) λo _=>by cases o<;>exact N _
 obtain⟨g,rfl,af⟩:=ad;unfold Wr tB;have ae:F q.r.gu=1:=QC;by_cases k:g<F q.r.gu
 .rw[dO,dz k,c6,et k,cI,cI,e7 I];exact ep.2 ⟨λ_=>dg.2<|.inr ⟨_,rfl,trivial⟩,λ_=>dg.2<|.inl ⟨_,rfl,⟨g+1,rfl,I⟩,I⟩⟩
 .rw[dO,dr k,dm];exact dg.2<|.inr ⟨_,rfl,trivial⟩
end
def abQ{n:Nat}(cR:n<=4){a:d9}(h:od n a):wi a=B T:=by
 have N:c0.fV wa wa=T:=J;cases h with
 |lU C h=>unfold wi;simp[d9.fV,wa,jX,c0.fV,eW.fV]at N⊢;exact N
 |ot A g h af=>unfold wi;have aR:=y1 g;simp[d9.fV,wa,jX,c0.fV,eW.fV,Gw h.1 h.2]at N⊢;rw[N,show(fF g !=0)=T by simpa using aR];rfl
 |fo C A j h i ax=>unfold wi;have b:=t0 cR ax ax;simp only[decide_true]at b;simp[d9.fV,b,rb cR ax,Gw i.1 i.2]
 |jp C j c h ax d=>unfold wi;have b:=t0 cR ax ax;simp only[decide_true]at b;simp[d9.fV,b,rb cR ax,d.1,d.2]
section
variable{n j:Nat}(cR:n<=4)(hi:j<n)
def uh{a:Int}(h:fy a):qa a=B T:=by unfold qa;rw[dz h.1,dz h.2];rfl
include cR
theorem amf{s:E fh}(h:mB n j s):Ka (fF j) s=B T:=by
 have aP:=h.len;unfold Ka;rw[dr I,dm];have:dq (Kb s<|fF j) 0=B ():=by
  refine nr (Q:=F s) (λg af=>?_) ?_
  .unfold Kb;have⟨a,b,d,i⟩:=h.1 _ (fi af);rw[dO,dz af,c6,et af,cI,hl a.zd,dm,hl a.ox,dm,ad3 (.inr b),cI,c6,b.1,c6,uh d,cI,c6,uh i,cI,c6,e7 I];by_cases dI:g=0
   .subst dI;rfl
   .rw[dz (dd:(g:Int)>0),(dd:(g:Int)-1=((g-1:Nat):Int)),mW I,et (dd:g-1<F s),c6,cI];have G:=h.2.jT (j:=g-1) (m:=g) I af;have k:=((h.1 _ (fi (dd:g-1<F s))).1.abt a).2 G;rw[dr I];rfl
  .unfold Kb;rw[dO,dr I];rfl
 rw[this];rfl
include hi in
theorem ND{r:fH}(h:m2 n j r):x5 r=B T:=by
 unfold x5;have cK:Kc (fF j) [iN j]=B T:=kB (z:=λj=>Kc (fF j) [iN j]=B T) J J J J I;have aA:AH r.gI=B T:=by unfold AH AI;rw[Ry cR h.tb,cI,c6,dz h.t4.1,dz h.t4.2];rfl
 have ay:KI r.gX r=B Z:=by
  unfold KI Qh;have aP:=h.rZ.len cR;have:dq (KP r.gX r) 0=B (.inl ()):=by
   refine nr (Q:=F r.gX) (λg af=>?_) ?_
   .unfold KP PF;have⟨a,b,_⟩:=h.rZ.1 _ (fi af);have aR:¬r.gX[g].c3.dW=r.hr:=λC=>b (by rw[a.lS,h.self]at C;have:=vy C;rw[this])
    rw[dO,dz af,c6,et af,cI,cI,hl aR,dm,e7 I]
   .unfold KP;rw[dO,dr I,dm]
  rw[this];rfl
 have d:KG r.hh r=B Z:=by
  unfold KG Qd;have aP:=h.kF.len hi;have:dq (KM r.hh r) 0=B (.inl ()):=by
   refine nr (Q:=F r.hh) (λg af=>?_) ?_
   .unfold KM PG;have⟨a,b,_⟩:=h.kF.1 _ (fi af);have aR:¬r.hh[g].c3.dW=r.hr:=λC=>b (by rw[a.lS,h.self]at C;have:=vy C;rw[this])
    rw[dO,dz af,c6,et af,cI,cI,hl aR,dm,e7 I]
   .unfold KM;rw[dO,dr I,dm]
  rw[this];rfl
 rw[hl (by rw[h.self];exact y1 j),dm,uh h.vV,cI,c6,uh h.quiet,cI,c6,uh h.next,cI,c6,h.self,h.iN,cK,cI,c6,amf cR h.mq,cI,c6,zs cR h.kJ,cI,c6,B7 cR h.rZ,cI,c6,MD cR hi h.kF,cI,c6,NF cR h.jp,cI,c6,aA,cI,c6,ay,cI,dm,d];rfl
theorem aq7{q:fP}(h:m2 n j q.r)(ax:fy q.now):de (J8 q) λv=>mB n j v.1/\kk n j v.2:=by
 have aP:=h.mq.len;have⟨ae,aD,S⟩:=MO ax 2 I;rw[(J:((2:Nat):Int)=2)]at aD;unfold J8;refine de.bind (u:=λl=>mB n j l.2/\kk n j l.1) (hk (λa=>∃g:Nat,a.1=(g:Int)/\g<=F q.r.eg/\kk n j a.2.1/\(∀t∈a.2.2,EL n j t)/\(a.2.2.map (·.eb)).Sublist ((q.r.eg.take g).map (·.eb))) (λa=>((F q.r.eg:Int)-a.1).toNat) (λa d=>?_) ⟨0,rfl,I,h.rZ,dh,dh⟩) λl K=>dg.2 K
 have⟨ad,R,L⟩:=a;have⟨g,s,af,i,o,k⟩:=d;simp only at s i o k;subst s;have aa:F L<=4:=by have:=k.length_le;simp only[fT,hO]at this;omega
 unfold Wt;simp only;by_cases b:g<F q.r.eg
 .have⟨z,p,A,D⟩:=h.mq.1 _ (fi b);have u:(q.r.eg.take<|g+1).map (·.eb)=(q.r.eg.take g).map (·.eb)++[q.r.eg[g].eb]:=by rw[ta (e6 b),hN];rfl
  rw[dO,dz b,c6];simp only[cQ.cL,et b,cI,gz,gx,e6 b];have y:∀(v:gE×Int) (C:gE),u7 C->fy v.2->de (D8 ((g:Int),R,L) q.r.eg[g] v C) λa=>(∃ao,a=.inl ao/\(∃g:Nat,ao.1=(g:Int)/\g<=F q.r.eg/\kk n j ao.2.1/\(∀t∈ao.2.2,EL n j t)/\(ao.2.2.map (·.eb)).Sublist ((q.r.eg.take g).map (·.eb)))/\((F q.r.eg:Int)-ao.1).toNat<((F q.r.eg:Int)-(g:Int)).toNat)\/∃r,a=.inr r/\mB n j r.2/\kk n j r.1:=by
   intro v C ap ab;unfold D8 J9;rw[e7 I];refine ep.2 ⟨λ_=>?_,λN=>?_⟩
   .rw[ary cR i,cI,dg];refine .inl ⟨_,rfl,⟨g+1,rfl,I,i.filter _,o,?_⟩,ew⟩;rw[u];exact k.trans<|Oz _ _
   .have Q:qf C:=by
     rcases ap with rfl|ap
     .exact absurd N h8
     .exact ap
    simp only[cQ.cL,iV];rw[i8 fv fv,cI,dg];refine .inl ⟨_,rfl,⟨g+1,rfl,I,i,λt m=>?_,?_⟩,ew⟩
    .rcases gq.1 m with m|m
     .exact o t m
     .rw[gO.1 m];exact⟨z,Q,ab,D⟩
    .rw[u];simp only[hN,hx,jY];exact k.append<|xM _
  have x:∀(v:gE×Int),u7 v.1->fy v.2->de (D7 q.r.eg[g] q ((g:Int),R,L) v) λa=>(∃ao,a=.inl ao/\(∃g:Nat,ao.1=(g:Int)/\g<=F q.r.eg/\kk n j ao.2.1/\(∀t∈ao.2.2,EL n j t)/\(ao.2.2.map (·.eb)).Sublist ((q.r.eg.take g).map (·.eb)))/\((F q.r.eg:Int)-ao.1).toNat<((F q.r.eg:Int)-(g:Int)).toNat)\/∃r,a=.inr r/\mB n j r.2/\kk n j r.1:=by intro v ap ab;unfold D7;exact ep.2 ⟨λ_=>(ad1 ap _).bind λC P=>y v C P.1 ab,λ_=>y v _ ap ab⟩
  refine ep.2 ⟨λ_=>(aqU p).bind λC ap=>?_,λ_=>x _ (.inr p) A⟩;rw[aD,cI];exact x _ ap S
 .rw[dO,dr b,dm];refine dg.2<|.inr ⟨_,rfl,⟨o,?_⟩,i⟩;have G:(L.map (·.eb)).Pairwise λt l=>hX t<hX l:=HJ (k.trans<|(Cq g _).map _)<|sf.2 h.mq.2
  exact(sf (R:=λt l=>hX t<hX l) (f:=λe:fh=>e.eb)).1 G
theorem aqY{r:fH}(h:mB n j r.eg):de (JX r) λs=>AO n j s:=by
 have aP:=h.len;unfold JX;refine de.bind (u:=λs=>AO n j s) (hk (λa=>∃g:Nat,a.1=(g:Int)/\g<=F r.eg/\(∀t∈a.2,sC n j t)/\(a.2.map (·.eb))=((r.eg.take g).map (·.eb))) (λa=>((F r.eg:Int)-a.1).toNat) (λa d=>?_) ef) λl u=>dg.2 u
 have⟨D,L⟩:=a;have⟨g,o,af,m,b⟩:=d;simp only at o m b;subst o;have C:F L<=4:=by have:=congrArg F b;simp only[fT,hO]at this;omega
 unfold Wm;simp only;by_cases k:g<F r.eg
 .have⟨p,q,z,A⟩:=h.1 _ (fi k);have y:(r.eg.take<|g+1).map (·.eb)=(r.eg.take g).map (·.eb)++[r.eg[g].eb]:=by rw[ta (e6 k),hN];rfl
  have⟨c,aG,aD,aQ⟩:=aqS q;rw[dO,dz k,c6,et k,cI,aG,cI,e7 I];simp only[cQ.cL,iV];rw[i8 fv fv,cI,dg];refine .inl ⟨_,rfl,⟨g+1,rfl,I,λt i=>?_,?_⟩,ew⟩
  .rcases gq.1 i with i|i
   .exact m t i
   .rw[gO.1 i];exact⟨p,aD,aQ⟩
  .rw[y,hN,b];rfl
 .rw[dO,dr k,dm];refine dg.2<|.inr ⟨_,rfl,m,?_⟩;have x:g=F r.eg:=I;subst x;rw[iV]at b;have G:(L.map (·.eb)).Pairwise λt l=>hX t<hX l:=by rw[b];exact sf.2 h.2
  exact(sf (R:=λt l=>hX t<hX l) (f:=λe:fO=>e.eb)).1 G
include hi in
theorem ad8{q:fP}(h:m2 n j q.r)(ax:fy q.now)(z:∀a∈q.all,nC n a)(ai:F q.all<=50):de (D9 q) λv=>mB n j v.1/\jJ n v.2.1/\kk n j v.2.2.1/\pE n j v.2.2.2.1/\j8 n v.2.2.2.2.1/\(∀a∈v.2.2.2.2.2,nC n a)/\F v.2.2.2.2.2<=F q.all+9:=by
 unfold D9;refine(aq7 cR h ax).bind λN s=>?_
 rw[arx cR s.2 ax,cI,ar4 cR h.kJ ax,cI];have hS:=s.2.filter λr=>decide (q.now<r.ge)
 have m:=h.kJ.filter λr=>decide (q.now<r.ge)
 generalize N.2.filter (λr=>decide (q.now<r.ge))=R at*;generalize q.r.gT.filter (λr=>decide (q.now<r.ge))=Q at*;refine(aqY cR (r:={q.r with eg:=N.1,gT:=Q,gX:=R}) s.1).bind λah aa=>(arA cR hi hS m aa h.kF ax).bind λu k=>?_
 have al:=k.2.len hi;rw[k.1];refine ep.2 ⟨λC=>cU,λ_=>?_⟩;refine de.bind (u:=λl=>j8 n l) (hk (λa=>∃g:Nat,a.1=(g:Int)/\g<=F u.1/\j8 n a.2) (λa=>((F u.1:Int)-a.1).toNat) (λa d=>?_) ⟨0,rfl,I,h.jp⟩) λl D=>?_
 .have⟨ag,l⟩:=a;have⟨g,p,af,b⟩:=d;simp only at p b;subst p;unfold Wu J_;simp only;by_cases i:g<F u.1
  .have K:=k.2.1 _ (fi i);rw[dO,dz i,c6,et i,cI,e7 I];refine ep.2 ⟨λdI=>?_,λ_=>dg.2<|.inl ⟨_,rfl,⟨g+1,rfl,I,b⟩,ew⟩⟩;have ae:k3 u.1[g].fU.ff:=by
    rcases K.2.2.2 with G|G
    .exact G.2.1
    .rw[G.1]at dI;simp at dI
   exact(arl cR b K.1 ae).bind λr ay=>dg.2<|.inl ⟨_,rfl,⟨g+1,rfl,I,ay⟩,ew⟩
  .rw[dO,dr i,dm];exact dg.2<|.inr ⟨_,rfl,b⟩
 .unfold ww;rw[cI];refine ep.2 ⟨λ_=>dg.2 ⟨s.1,m,hS,k.2,D,z,ew⟩,λ_=>(arB cR hi hS m k.2 ax).bind λP A=>?_⟩;refine de.bind (u:=λa=>j8 n a.1/\(∀o∈a.2,nC n o)/\F a.2<=F q.all+9) (hk (λa=>∃g:Nat,a.1=(g:Int)/\g<=F P/\j8 n a.2.1/\(∀o∈a.2.2,nC n o)/\F a.2.2<=F q.all+g) (λa=>((F P:Int)-a.1).toNat) (λa d=>?_) ⟨0,rfl,I,D,z,dh⟩) λa d=>dg.2 ⟨s.1,m,hS,k.2,d.1,d.2.1,d.2.2⟩
  have⟨ag,l,ak⟩:=a;have⟨g,p,af,b,t,S⟩:=d;simp only at p b t S;subst p;have aj:=A.2;unfold Wv D_;simp only;by_cases i:g<F P
  .have y:=A.1 _ (fi i);rw[dO,dz i,c6,et i,cI,e7 I];have gJ:∀x,j8 n x->de (B (dV (((g+1:Nat):Int),x,ak)):X ((Int×(E eq)×(E d9))⊕((E eq)×(E d9)))) λa=>(∃ao,a=.inl ao/\(∃g:Nat,ao.1=(g:Int)/\g<=F P/\j8 n ao.2.1/\(∀o∈ao.2.2,nC n o)/\F ao.2.2<=F q.all+g)/\((F P:Int)-ao.1).toNat<((F P:Int)-(g:Int)).toNat)\/∃r,a=.inr r/\j8 n r.1/\(∀o∈r.2,nC n o)/\F r.2<=F q.all+9:=λx ab=>dg.2<|.inl ⟨_,rfl,⟨g+1,rfl,I,ab,t,ew⟩,ew⟩
   refine(aeM cR m ax y.1).bind λf am=>ep.2 ⟨λG=>?_,λ_=>gJ l b⟩
   have ap:=N7<|f.1.dx+1;refine(aeh cR b ax y.1 ap (hops:=32) (fr:=0) I I<|.inl rfl).bind λr ay=>?_
   rw[ay.1];refine ep.2 ⟨λC=>lL,λ_=>ep.2 ⟨λ_=>?_,λ_=>gJ _ ay.2⟩⟩;unfold uT;simp only[cQ.cL,cI];rw[i8 fv fv,cI,dg];refine .inl ⟨_,rfl,⟨g+1,rfl,I,ay.2,λo ad=>?_,fv⟩,ew⟩;rcases gq.1 ad with ad|ad
   .exact t o ad
   .rw[gO.1 ad];exact⟨.jp _ _ _ ap y.1 ⟨I,I⟩,(by decide:(5:Int)≠3)⟩
  .rw[dO,dr i,dm];exact dg.2<|.inr ⟨_,rfl,b,t,ew⟩
end
section
variable{n j:Nat}(cR:n<=4)(hi:j<n)
include cR
theorem aq1{q:fP}(h:mB n j q.r.eg)(z:g6 q.r.i3)(ax:fy q.now)(y:∀a∈q.all,nC n a)(N:F q.all<=60):de (J3 q) λv=>g6 v.1/\fy v.2.1/\(∀a∈v.2.2,nC n a)/\F v.2.2<=F q.all+5:=by
 have aP:=h.len;have⟨Q,aD,A⟩:=MO ax 2 I;rw[(J:((2:Nat):Int)=2)]at aD;unfold J3;simp only[cQ.cL];rw[i8 ef ef,cI];refine de.bind (u:=λl=>(∀a∈l,nC n a)/\F l<=F q.all+5) (hk (λa=>∃g:Nat,a.1=(g:Int)/\g<=F q.r.eg/\(∀o∈a.2,nC n o)/\F a.2<=F q.all+1+g) (λa=>((F q.r.eg:Int)-a.1).toNat) (λa d=>?_) ⟨0,rfl,I,λo ad=>?_,dh⟩) λl m=>?_
 .have⟨P,ak⟩:=a;have⟨g,p,af,i,t⟩:=d;simp only at p i t;subst p;unfold Ws;simp only;by_cases b:g<F q.r.eg
  .have⟨k,s,C,D⟩:=h.1 _ (fi b);have⟨c,u,x,K⟩:=ad2 s;rw[dO,dz b,c6];simp only[cQ.cL,et b,cI,gz,gx,e6 b,u];rw[i8 fv fv,cI,e7 I,dg];refine .inl ⟨_,rfl,⟨g+1,rfl,I,λo ad=>?_,fv⟩,ew⟩;rcases gq.1 ad with ad|ad
   .exact i o ad
   .rw[gO.1 ad,k.lS];exact⟨.ot _ _ ⟨x,I⟩ k.lt,(by decide:(2:Int)≠3)⟩
  .rw[dO,dr b,dm];exact dg.2<|.inr ⟨_,rfl,i,W7⟩
 .rcases gq.1 ad with ad|ad
  .exact y o ad
  .rw[gO.1 ad];exact⟨.lU _ z,(by decide:(1:Int)≠3)⟩
 .rw[aD,cI,dg];exact⟨N7 _,A,m.1,m.2⟩
include hi
theorem aqV{q:fP}(h:m2 n j q.r)(ax:fy q.now)(aa:∀a∈q.all,nC n a)(ah:F q.all<=70):de (JZ q) λv=>jJ n v.1/\j8 n v.2.1/\sh n v.2.2.1.fJ/\fy v.2.2.1.oQ/\(∀a∈v.2.2.2,od n a)/\F v.2.2.2<=F q.all+16/\vh v.2.2.2:=by
 have aj:=h.jp.len;unfold JZ;refine(ark cR h.jp ax).bind λp x=>?_
 rw[x.1];refine ep.2 ⟨λ_=>?_,λC=>lL⟩;refine de.bind (u:=λl=>(∀a∈l,nC n a)/\F l<=F q.all+4) (hk (λa=>∃g:Nat,a.1=(g:Int)/\g<=F p.1/\(∀o∈a.2,nC n o)/\F a.2<=F q.all+g) (λa=>((F p.1:Int)-a.1).toNat) (λa d=>?_) ⟨0,rfl,I,aa,dh⟩) λl u=>?_
 .have⟨ab,ak⟩:=a;have⟨g,m,af,i,S⟩:=d;simp only at m i S;subst m;have cN:=x.2.2.2;unfold Wo uT;simp only;by_cases b:g<F p.1
  .have⟨y,z,A,D,_⟩:=h.jp.1 _ (x.2.2.1 _ (fi b));rw[dO,dz b,c6];simp only[cQ.cL,et b,cI];rw[i8 fv fv,cI,e7 I,dg];refine .inl ⟨_,rfl,⟨g+1,rfl,I,λo ad=>?_,fv⟩,ew⟩;rcases gq.1 ad with ad|ad
   .exact i o ad
   .rw[gO.1 ad];exact⟨.jp _ _ _ z y ⟨A,D⟩,(by decide:(5:Int)≠3)⟩
  .rw[dO,dr b,dm];exact dg.2<|.inr ⟨_,rfl,i,W7⟩
 .refine(aru cR hi (r:={q.r with hj:=p.2.1}) h.self h.iN h.kF h.seq).bind λal K=>?_
  have ag:=K.len;rw[ai8];refine(ad5 cR (q:={q with r.hj:=p.2.1,all:=l}) h.kJ ax K.1 I).bind λam Q=>?_
  rw[Q.1];refine(asJ cR h.tb h.t4 K ax).bind λs k=>?_
  rw[k.1];refine ep.2 ⟨λC=>lL,λ_=>?_⟩;have cN:=k.2.2.2.2.1;have ai:=u.2;refine de.bind (u:=λc=>c=l++s.2.1.map λt=>⟨3,t.fU.dx,t.fU.ff,0,t.c3,0⟩) (hk (λa=>∃g:Nat,a.1=(g:Int)/\g<=F s.2.1/\a.2=l++(s.2.1.take g).map λt=>⟨3,t.fU.dx,t.fU.ff,0,t.c3,0⟩) (λa=>((F s.2.1:Int)-a.1).toNat) (λa d=>?_) ⟨0,rfl,I,dh⟩) λc P=>dg.2 ⟨Q.2,x.2.1,k.2.1,k.2.2.1,λa d=>?_,?_,?_⟩
  .have⟨ab,ak⟩:=a;have⟨g,m,af,i⟩:=d;simp only at m i;subst m;subst i;unfold Wp Ea;simp only;by_cases b:g<F s.2.1
   .rw[dO,dz b,c6];simp only[cQ.cL,et b,cI];rw[i8 fv fv,cI,e7 I,dg];refine .inl ⟨_,rfl,⟨g+1,rfl,I,?_⟩,ew⟩;simp only;rw[xI,e6 b,hN,<-iu];rfl
   .rw[dO,dr b,dm];refine dg.2<|.inr ⟨_,rfl,?_⟩;rw[k9 I]
  .rw[P]at d;rcases gq.1 d with d|d
   .exact(u.1 a d).1
   .obtain⟨t,N,rfl⟩:=hT.1 d;have⟨y,z,A,D⟩:=k.2.2.2.1 t N;exact .fo _ _ _ D ⟨z,A⟩ y
  .rw[P];simp;omega
  .rw[P];refine py.2 ⟨nC.te u.1,sf.2 (k.2.2.2.2.2.imp λC _ _=>C),λt N ae _ C=>absurd C (u.1 t N).2⟩
omit cR hi in
theorem ad7{q:fP}(l:vh q.all)(g:∀a∈q.all,od n a)(k:F q.all<=100)(d:∀i∈q.ic,nT n j i)(m:F q.ic<=100):de (D6 q) λs=>(∀i∈s,nT n j i)/\F s<=F q.ic+1:=by
 unfold D6 J7;simp only[cQ.cL];refine ep.2 ⟨λ_=>?_,λ_=>?_⟩
 .rw[i8 dh dh,cI,i8 QD QD,cI,dg];refine⟨λi b=>?_,dh⟩;simp only[k8,zI,l3]at b;rcases b with rfl|b
  .exact⟨.inl rfl,g,k,l⟩
  .exact d i b
 .rw[i8 QD QD,cI,dg];exact⟨by simpa using d,dh⟩
omit cR hi in
def qq{ag:Type}{l:Nat}{s:E ag}(h:F s*l<=140737488355328)(aF:F s<=140737488355328):((ej l ([]:E ag) s).bind λa=>B a)=B s:=by rw[yO h aF];rfl
theorem ad6{r:fH}(h:m2 n j r):sq r.gu=B r.gu/\yg r.eg=B r.eg/\yl r.gT=B r.gT/\yk r.gX=B r.gX/\yh r.hh=B r.hh/\yi r.hj=B r.hj/\tD r.gI.fJ=B r.gI.fJ:=by
 have G:=h.mq.len;have a:=h.kJ.len;have b:=h.rZ.len cR;have d:=h.kF.len hi;have g:=h.jp.len;have i:=h.tb.len;have dI:F r.gu=1:=QC;refine⟨?_,?_,?_,?_,?_,?_,?_⟩
 .unfold sq;simp only[cQ.cL,pt];exact qq I I
 .unfold yg;simp only[cQ.cL,pt];exact qq I I
 .unfold yl;simp only[cQ.cL,pt];exact qq I I
 .unfold yk;simp only[cQ.cL,pt];exact qq I I
 .unfold yh;simp only[cQ.cL,pt];exact qq I I
 .unfold yi;simp only[cQ.cL,pt];exact qq I I
 .unfold tD;simp only[cQ.cL,pt];exact qq I I
theorem aq9{r:fH}(h:m2 n j r){K:Int}(ax:fy K):de (JS r K) λv=>v.2.2=0/\m2 n j v.1/\v.1.gH=r.gH/\(∀i∈v.2.1,nT n j i)/\F v.2.1<=101:=by
 have⟨ae,af,ag,ah,ai,aj,ak⟩:=ad6 cR hi h;have dI:F r.gu=1:=QC;have u:∀(C an:Int),g6 C->fy an->de (DY r r.gu r.eg r.gT r.gX r.hh r.hj r.gI.fJ K (C,an)) λv=>v.2.2=0/\m2 n j v.1/\v.1.gH=r.gH/\(∀i∈v.2.1,nT n j i)/\F v.2.1<=101:=by
  intro C an ap N;unfold DY;refine(ad8 cR hi (q:=⟨⟨r.hr,C,an,r.gH,r.i3,r.jk,r.gu,r.eg,r.gT,r.gX,r.hh,r.hj,{r.gI with fJ:=r.gI.fJ}⟩,K,0,[],[]⟩) ⟨h.self,h.iN,ap,N,h.quiet,h.lU,h.next,h.mq,h.kJ,h.rZ,h.kF,h.jp,h.tb,h.t4⟩ ax dh dh).bind λb ad=>?_
  have⟨aS,aN,a2,p,q,t,aa⟩:=ad;simp only[kv]at aa;have x:∀(g:Int×Int×(E d9)),g6 g.1->fy g.2.1->(∀a∈g.2.2,nC n a)->F g.2.2<=14->de (DZ r (C,an) r.gu b r.gI.fJ K g) λv=>v.2.2=0/\m2 n j v.1/\v.1.gH=r.gH/\(∀i∈v.2.1,nT n j i)/\F v.2.1<=101:=by
   intro g m o l al;have y:∀(k:(E eh)×(E eq)×h_×(E d9)),jJ n k.1->j8 n k.2.1->sh n k.2.2.1.fJ->fy k.2.2.1.oQ->(∀a∈k.2.2.2,od n a)->F k.2.2.2<=30->vh k.2.2.2->de (D0 r (C,an) g r.gu b K k) λv=>v.2.2=0/\m2 n j v.1/\v.1.gH=r.gH/\(∀i∈v.2.1,nT n j i)/\F v.2.1<=101:=by
    intro k z A D P Q am S;unfold D0;refine(ad7 (n:=n) (j:=j) S Q ew dh dh).bind λs cN=>dg.2 ⟨rfl,⟨h.self,h.iN,ap,N,h.quiet,m,o,aS,z,a2,p,A,D,P⟩,rfl,cN.1,?_⟩
    have:=cN.2;simp only[kv]at this;simp only;omega
   unfold DZ ww;rw[cI];refine ep.2 ⟨λ_=>y _ aN q h.tb h.t4 (λa d=>(l a d).1) ew<|nC.te l,λ_=>?_⟩;refine(aqV cR hi (q:=⟨⟨r.hr,C,an,r.gH,g.1,g.2.1,r.gu,b.1,b.2.1,b.2.2.1,b.2.2.2.1,b.2.2.2.2.1,{r.gI with fJ:=r.gI.fJ}⟩,K,0,g.2.2,[]⟩) ⟨h.self,h.iN,ap,N,h.quiet,m,o,aS,aN,a2,p,q,h.tb,h.t4⟩ ax l ew).bind λv ab=>y _ ab.1 ab.2.1 ab.2.2.1 ab.2.2.2.1 ab.2.2.2.2.1 (by have:=ab.2.2.2.2.2.1;simp only at this⊢;omega) ab.2.2.2.2.2.2
  refine ep.2 ⟨λ_=>?_,λ_=>x _ h.lU h.next t ew⟩;refine(aq1 cR (j:=j) (q:=⟨⟨r.hr,C,an,r.gH,r.i3,r.jk,r.gu,b.1,b.2.1,b.2.2.1,b.2.2.2.1,b.2.2.2.2.1,{r.gI with fJ:=r.gI.fJ}⟩,K,0,b.2.2.2.2.2,[]⟩) aS h.lU ax t ew).bind λv ab=>x _ ab.1 ab.2.1 ab.2.2.1 (by have:=ab.2.2.2;simp only at this⊢;omega)
 unfold JS;rw[ND cR hi h,uh ax,ae,af,ag,ah,ai,aj,ak];simp only[c6,cI];rw[dz I,c6];exact ep.2 ⟨λ_=>u _ _ (N7 _) ax,λ_=>u _ _ h.seq h.vV⟩
theorem aq2{r:fH}(h:m2 n j r){K at_:Int}(ax:fy K)(aM:fy at_)(G:at_<=K)(a1:K-3<=at_){fr:Int}(y:hQ n j fr){s:E d9}(cN:∀a∈s,od n a)(a4:F s<=64):de (JR r K at_ fr s) λv=>v.2.2=0/\m2 n j v.1/\v.1.gH=r.gH/\(∀i∈v.2.1,nT n j i)/\F v.2.1<=101:=by
 have⟨aR,aT,aU,aV,aW,aX,aY⟩:=ad6 cR hi h;have aP:KH s=B Z:=by
  unfold KH Qg;have:dq (KO s) 0=B ():=by
   refine nr (Q:=F s) (λg af=>?_) ?_
   .unfold KO PD;rw[dO,dz af,c6,et af,cI,abQ cR (cN _ (fi af))];simp only[cI,xE,dm];rw[e7 I]
   .unfold KO;rw[dO,dr I,dm]
  rw[this];rfl
 unfold JR;rw[ND cR hi h,hl y.zd,hl (show¬fr=r.hr by rw[h.self];exact y.ox),dr (dd:¬(F s:Int)>64),aP,uh ax,uh aM,dr (dd:¬at_>K),show U W (K-3)=K-3 from fx W8 QE,dr (dd:¬at_<K-3),aR,aT,aU,aV,aW,aX,aY];simp only[c6,dm,cI];refine de.bind (u:=λl=>g6 l.1/\fy l.2.1/\jJ n l.2.2.1/\kk n j l.2.2.2.1/\j8 n l.2.2.2.2.1/\(∀i∈l.2.2.2.2.2.1,nT n j i)/\F l.2.2.2.2.2.1<=64/\mB n j l.2.2.2.2.2.2) (hk (λa=>∃g:Nat,a.1=(g:Int)/\g<=F s/\g6 a.2.1/\fy a.2.2.1/\jJ n a.2.2.2.1/\kk n j a.2.2.2.2.1/\j8 n a.2.2.2.2.2.1/\(∀i∈a.2.2.2.2.2.2.1,nT n j i)/\F a.2.2.2.2.2.2.1<=g/\mB n j a.2.2.2.2.2.2.2) (λa=>((F s:Int)-a.1).toNat) (λa d=>?_) ⟨0,rfl,I,h.seq,h.vV,h.kJ,h.rZ,h.jp,dh,dh,h.mq⟩) λl aO=>?_
 .have⟨a5,C,an,b,R,ah,P,L⟩:=a;have⟨g,aw,af,m,p,t,u,x,Q,aH,k⟩:=d;simp only at aw m p t u x Q aH k;subst aw;have aA:m2 n j ⟨r.hr,C,an,r.gH,r.i3,r.jk,r.gu,L,b,R,r.hh,ah,{r.gI with fJ:=r.gI.fJ}⟩:=⟨h.self,h.iN,m,p,h.quiet,h.lU,h.next,k,t,u,h.kF,x,h.tb,h.t4⟩;unfold Wl wu;simp only;by_cases S:g<F s
  .rw[dO,dz S,c6,et S,cI,e7 I];have z:∀C an b R ah (N:E hq) L,g6 C->fy an->jJ n b->kk n j R->j8 n ah->(N=P\/∃i,nT n j i/\N=P++[i])->mB n j L->de (B (dV (((g+1:Nat):Int),C,an,b,R,ah,N,L)):X ((Int×Int×Int×(E eh)×(E dL)×(E eq)×(E hq)×(E fh))⊕(Int×Int×(E eh)×(E dL)×(E eq)×(E hq)×(E fh)))) λa=>(∃ao,a=.inl ao/\(∃g:Nat,ao.1=(g:Int)/\g<=F s/\g6 ao.2.1/\fy ao.2.2.1/\jJ n ao.2.2.2.1/\kk n j ao.2.2.2.2.1/\j8 n ao.2.2.2.2.2.1/\(∀i∈ao.2.2.2.2.2.2.1,nT n j i)/\F ao.2.2.2.2.2.2.1<=g/\mB n j ao.2.2.2.2.2.2.2)/\((F s:Int)-ao.1).toNat<((F s:Int)-(g:Int)).toNat)\/∃l,a=.inr l/\g6 l.1/\fy l.2.1/\jJ n l.2.2.1/\kk n j l.2.2.2.1/\j8 n l.2.2.2.2.1/\(∀i∈l.2.2.2.2.2.1,nT n j i)/\F l.2.2.2.2.2.1<=64/\mB n j l.2.2.2.2.2.2:=by
    intro C an b R ah N L al am ap aq ar aa au;rcases aa with rfl|⟨i,aa,rfl⟩
    .exact dg.2<|.inl ⟨_,rfl,⟨g+1,rfl,I,al,am,ap,aq,ar,Q,ew,au⟩,ew⟩
    .refine dg.2 (.inl ⟨_,rfl,⟨g+1,rfl,I,al,am,ap,aq,ar,λo ad=>?_,fv,au⟩,ew⟩);rcases gq.1 ad with ad|ad
     .exact Q o ad
     .rw[gO.1 ad];exact aa
   have d:=cN _ (fi S);generalize s[g]=a at d⊢;have az:∀q,ww q=B (decide (q.now<q.r.gH)):=λq=>rfl
   cases d with
   |lU v ab=>simp only[beq_self_eq_true,c6];exact(aq4 cR (q:=⟨⟨r.hr,C,an,r.gH,r.i3,r.jk,r.gu,L,b,R,r.hh,ah,{r.gI with fJ:=r.gI.fJ}⟩,K,fr,[],P⟩) k ax y _).bind λaB ae=>z _ _ _ _ _ _ _ m p t u x (.inl rfl) ae
   |ot A e ay a3=>simp only[beq_self_eq_true,c6,(J:((2:Int)==1)=Z),dm];exact(aq3 cR (q:=⟨⟨r.hr,C,an,r.gH,r.i3,r.jk,r.gu,L,b,R,r.hh,ah,{r.gI with fJ:=r.gI.fJ}⟩,K,fr,[],P⟩) k ax y _).bind λaB ae=>z _ _ _ _ _ _ _ m p t u x (.inl rfl) ae
   |fo v A ai ab ay ag=>simp only[beq_self_eq_true,c6,(J:((3:Int)==1)=Z),(J:((3:Int)==2)=Z),dm,az,cI];refine ep.2 ⟨λ_=>z _ _ _ _ _ _ _ m p t u x (.inl rfl) k,λ_=>?_⟩;exact(aq5 cR (q:=⟨⟨r.hr,C,an,r.gH,r.i3,r.jk,r.gu,L,b,R,r.hh,ah,{r.gI with fJ:=r.gI.fJ}⟩,K,fr,[],P⟩) aA ax y (a:=⟨3,v,A,0,ai,0⟩) ag ay ab).bind λaZ aL=>z _ _ _ _ _ _ _ m p t aL x (.inl rfl) k
   |jp v ai c ab ag aQ=>simp only[(J:((5:Int)==1)=Z),(J:((5:Int)==2)=Z),(J:((5:Int)==3)=Z),(J:((5:Int)==4)=Z),dm,az,cI];refine ep.2 ⟨λ_=>z _ _ _ _ _ _ _ m p t u x (.inl rfl) k,λ_=>?_⟩;exact(aqZ cR hi (q:=⟨⟨r.hr,C,an,r.gH,r.i3,r.jk,r.gu,L,b,R,r.hh,ah,{r.gI with fJ:=r.gI.fJ}⟩,K,fr,[],P⟩) aA ax y (a:=⟨5,v,0,0,ai,c⟩) ag ab aQ.2 ew).bind λa6 D=>z _ _ _ _ _ _ _ D.1 D.2.1 D.2.2.1 u D.2.2.2.1 D.2.2.2.2 k
  .rw[dO,dr S,dm];exact dg.2<|.inr ⟨_,rfl,m,p,t,u,x,Q,ew,k⟩
 .have⟨aj,ak,aC,aD,aE,aF,a0,aG⟩:=aO;refine(ad8 cR hi (q:=⟨⟨r.hr,l.1,l.2.1,r.gH,r.i3,r.jk,r.gu,l.2.2.2.2.2.2,l.2.2.1,l.2.2.2.1,r.hh,l.2.2.2.2.1,{r.gI with fJ:=r.gI.fJ}⟩,K,fr,[],l.2.2.2.2.2.1⟩) ⟨h.self,h.iN,aj,ak,h.quiet,h.lU,h.next,aG,aC,aD,h.kF,aE,h.tb,h.t4⟩ ax dh dh).bind λv ab=>?_
  have⟨aS,aN,a2,aI,aJ,av,aK⟩:=ab;simp only[kv]at aK;refine(ad7 (n:=n) (j:=j) (q:=⟨⟨r.hr,l.1,l.2.1,r.gH,r.i3,r.jk,r.gu,v.1,v.2.1,v.2.2.1,v.2.2.2.1,v.2.2.2.2.1,{r.gI with fJ:=r.gI.fJ}⟩,K,fr,v.2.2.2.2.2,l.2.2.2.2.2.1⟩) (nC.te av) (λa d=>(av a d).1) ew aF ew).bind λs cN=>dg.2 ⟨rfl,⟨h.self,h.iN,aj,ak,h.quiet,h.lU,h.next,aS,aN,a2,aI,aJ,h.tb,h.t4⟩,rfl,cN.1,?_⟩
  have:=cN.2;simp only at this⊢;omega
end
def RZ{m l:Nat}(aw:m<4)(a:l<4):p_ (dst m).ed (fk l)=B (decide (m=l)):=by refine wW (z:=λj m=>p_ (dst j).ed (fk m)=B (decide (j=m))) (λj hi=>?_) aw a;refine kB (z:=λj=>p_ (dst j).ed (fk 0)=B (decide (j=0))/\p_ (dst j).ed (fk 1)=B (decide (j=1))/\p_ (dst j).ed (fk 2)=B (decide (j=2))/\p_ (dst j).ed (fk 3)=B (decide (j=3))) ?_ ?_ ?_ ?_ hi<;>exact⟨J,J,J,J⟩
def ZZ{m t:Nat}(a:t<4):p_ (dst m).dU (fk t)=B T:=kB (z:=λt=>p_ ⟨jX,0⟩ (fk t)=B T) J J J J a
section
variable{n j:Nat}(cR:n<=4)(hi:j<n)
include cR hi
theorem amg{s:E dH}(h:pE n j s){t l:Nat}(o:t<4)(p:l<n):de (dq (PN s (fk l) (fk t)) ([],0)) λR=>R=[]\/∃e∈s,R=[e]/\e.c3=dst l:=by
 have aP:=h.len hi;refine hk (λq=>∃g:Nat,q.2=(g:Int)/\g<=F s/\(q.1=[]\/∃C,∃ap:C<F s,C<g/\q.1=[s[C]]/\w6 s[C]=l)) (λq=>((F s:Int)-q.2).toNat) (λq aj=>?_) ef;have⟨ak,u⟩:=q;have⟨g,i,af,b⟩:=aj;simp only at i b;subst i;unfold PN Ee;simp only;by_cases a:g<F s
 .have⟨aG,aD,_⟩:=h.1 _ (fi a);have aQ:=aG.lt;have k:s[g].c3=dst (fC s[g].c3):=aG.lS;rw[dO,dz a,c6,et a,cI,k,RZ I I,cI,ZZ o,cI,e7 I];by_cases d:fC s[g].c3=l
  .rw[dz d];rcases b with rfl|⟨C,ap,aC,rfl,au⟩
   .simp only[c6,cQ.cL];rw[dr dh,i8 dh dh];simp only[dm,kv,HP,beq_self_eq_true,c6,cI,dg];refine .inl ⟨_,rfl,⟨g+1,rfl,I,.inr ⟨g,a,I,rfl,d⟩⟩,ew⟩
   .have:=h.2.jT (j:=C) (m:=g) aC a;rw[au]at this;unfold w6 at this;omega
  .rw[dr d];simp only[dm,dg];refine .inl ⟨_,rfl,⟨g+1,rfl,I,?_⟩,ew⟩;rcases b with rfl|⟨C,ap,aC,rfl,au⟩
   .exact .inl rfl
   .exact .inr ⟨C,ap,I,rfl,au⟩
 .rw[dO,dr a,dm,dg];refine .inr ⟨_,rfl,?_⟩;rcases b with rfl|⟨C,ap,aC,rfl,au⟩
  .exact .inl rfl
  .refine .inr ⟨s[C],fi ap,rfl,?_⟩;rw[(h.1 _ (fi ap)).1.lS,<-au];rfl
theorem amh{s:E dH}(h:pE n j s){t l:Nat}(o:t<4)(p:l<n):de (dq (PO s (fk l) (fk t)) ([],0)) λR=>R=[]\/∃e∈s,R=[e]/\e.c3=dst l:=by
 have aP:=h.len hi;refine hk (λq=>∃g:Nat,q.2=(g:Int)/\g<=F s/\(q.1=[]\/∃C,∃ap:C<F s,C<g/\q.1=[s[C]]/\w6 s[C]=l)) (λq=>((F s:Int)-q.2).toNat) (λq aj=>?_) ef;have⟨ak,u⟩:=q;have⟨g,i,af,b⟩:=aj;simp only at i b;subst i;unfold PO Ef;simp only;by_cases a:g<F s
 .have⟨aG,aD,_⟩:=h.1 _ (fi a);have aQ:=aG.lt;have k:s[g].c3=dst (fC s[g].c3):=aG.lS;rw[dO,dz a,c6,et a,cI,k,RZ I I,cI,ZZ o,cI,e7 I];by_cases d:fC s[g].c3=l
  .rw[dz d];rcases b with rfl|⟨C,ap,aC,rfl,au⟩
   .simp only[c6,cQ.cL];rw[dr dh,i8 dh dh];simp only[dm,kv,HP,beq_self_eq_true,c6,cI,dg];refine .inl ⟨_,rfl,⟨g+1,rfl,I,.inr ⟨g,a,I,rfl,d⟩⟩,ew⟩
   .have:=h.2.jT (j:=C) (m:=g) aC a;rw[au]at this;unfold w6 at this;omega
  .rw[dr d];simp only[dm,dg];refine .inl ⟨_,rfl,⟨g+1,rfl,I,?_⟩,ew⟩;rcases b with rfl|⟨C,ap,aC,rfl,au⟩
   .exact .inl rfl
   .exact .inr ⟨C,ap,I,rfl,au⟩
 .rw[dO,dr a,dm,dg];refine .inr ⟨_,rfl,?_⟩;rcases b with rfl|⟨C,ap,aC,rfl,au⟩
  .exact .inl rfl
  .refine .inr ⟨s[C],fi ap,rfl,?_⟩;rw[(h.1 _ (fi ap)).1.lS,<-au];rfl
omit cR hi in
def abj{s:E dH}(h:pE n j s){l:Nat}{e:dH}(a:e∈s)(ax:e.c3=dst l):de (Av e) λv=>v.2=0/\hQ n j v.1.eb/\v.1.c3=dst l\/v.2=9\/v.2=15:=by
 have⟨aG,aD,aQ,aH⟩:=h.1 e a;unfold Av qD;rw[cI];refine ep.2 ⟨λC=>dg.2<|.inl ⟨rfl,?_,ax⟩,λ_=>dg.2<|.inr<|.inr rfl⟩;rcases aH with aH|aH
 .exact aH.1
 .rw[aH.1]at C;exact absurd C h8
theorem aer{s:E dH}(h:pE n j s){t l:Nat}(b:t<4)(g:l<n)(A:Bool){i:c0}(ax:A=T->i=dst l):de (Ed s (fk t) (fk l) i A) λv=>v.2=0/\hQ n j v.1.eb/\v.1.c3=dst l\/v.2=9\/v.2=15:=by
 have aP:=h.len hi;unfold Ed;rw[MD cR hi h];simp only[cI,c6];refine ep.2 ⟨λC=>?_,λ_=>?_⟩
 .rw[ax C,Uz I];simp only[cI,c6];refine(amg cR hi h b g).bind λR hS=>?_
  rcases hS with rfl|⟨e,a,rfl,aD⟩
  .exact dg.2<|.inr<|.inl rfl
  .have dI:([e]:E dH)[0]?=B e:=rfl;have d:di [e] 0=B e:=rfl;have p:Kr (dst l) (dst l)=B 0:=by have x:l<4:=I;exact kB (z:=λl=>Kr (dst l) (dst l)=B 0) J J J J x
   have k:eW.fV (dst l).ed (dst l).ed=T:=by have x:l<4:=I;exact kB (z:=λl=>eW.fV (dst l).ed (dst l).ed=T) J J J J x
   have m:eW.fV (dst l).dU (dst l).dU=T:=J;have o:KN [e] (dst l)=B 0:=by
    unfold KN;have:dq (Qe [e]<|dst l) 0=B (.inr 0):=by refine mr ?_;unfold Qe PM;rw[d,cI,aD,aad I I,cI];simp
    rw[this];rfl
   rw[d];simp only[lG,cI];rw[aD,p,k,m,o];simp only[cI,c6];rw[d];simp only[cI];exact abj h a aD
 .refine(amh cR hi h b g).bind λR hS=>?_
  rcases hS with rfl|⟨e,a,rfl,aD⟩
  .exact dg.2<|.inr<|.inl rfl
  .have d:di [e] 0=B e:=rfl;have cN:dq (PP [e] e) 0=B ():=by
    refine(pX (ao:=1) ?_).trans<|mr ?_
    .unfold PP;rw[d,cI,dr (dd:¬e.fU.ff<e.fU.ff)];rfl
    .rfl
   rw[d];simp only[lG,cI];rw[cN];exact abj h a aD
theorem adA{t l:Nat}(b:t<4)(a:l<4)(aR:l≠j):DW (dst j) (fk l) (fk t)=B Z:=by unfold DW;rw[RZ I a,dr dd];rfl
theorem aq0{r:fH}(h:m2 n j r){K:Int}(ax:fy K)(ap:r.gH<=K){t l:Nat}(p:t<n)(b:l<n)(aR:l≠j)(A:Bool){g:c0}(o:A=T->g=dst l):de (JQ r K (fk t) (fk l) g A) λv=>v.2.2=0/\hQ n j v.1/\v.2.1=dst l\/v.2.2=9\/v.2.2=15:=by
 have d:di [iN j] 0=B (iN j):=rfl;have k:dq (PB r (fk l)<|fk t) 0=B ():=by
  refine(pX (ao:=1) ?_).trans (mr ?_)<;>unfold PB<;>rw[h.iN]
  .unfold tB;rw[d,h.self,cI,cI,(J:c0.mk (iN j).ed (iN j).dU (fF j)=dst j),adA cR hi I I aR];rfl
  .rfl
 have m:dq (PC r (fk l)<|fk t) 0=B ():=by
  refine(pX (ao:=1) ?_).trans (mr ?_)<;>unfold PC<;>rw[h.iN]
  .unfold tB;rw[d,h.self,cI,cI,(J:c0.mk (iN j).ed (iN j).dU (fF j)=dst j),adA cR hi I I aR];rfl
  .rfl
 have a:∀v:dH×Int,(v.2=0/\hQ n j v.1.eb/\v.1.c3=dst l\/v.2=9\/v.2=15)->de (bif (v.2 !=0)then B ((0:Int),(c0.mk (eW.mk eP 0) (eW.mk eP 0) 0),v.2)else B (v.1.eb,v.1.c3,0)) λv=>v.2.2=0/\hQ n j v.1/\v.2.1=dst l\/v.2.2=9\/v.2.2=15:=by
  rintro⟨e,c⟩ ab;rcases ab with⟨rfl,G,i⟩|rfl|rfl
  .exact dg.2<|.inl ⟨rfl,G,i⟩
  .exact dg.2<|.inr<|.inl rfl
  .exact dg.2<|.inr<|.inr rfl
 unfold JQ;rw[ND cR hi h,k,m,uh ax,dr (dd:¬K<r.gH)];simp only[cI,c6,dm];refine ep.2 ⟨λC=>?_,λC=>?_⟩
 .subst C;rw[o rfl,Uz I,cI,c6];exact(aer cR hi h.kF I b T λ_=>rfl).bind λv ab=>a v ab
 .subst C;exact(aer cR hi h.kF I b Z λC=>lL).bind λv ab=>a v ab
def G8(j:Nat)(K:Int):fH:=⟨fF j,0,K,if 1099511627776<K+16 then 1099511627776 else K+16,0,K,[iN j],[],[],[],[],[],⟨[],K⟩⟩
omit cR hi in
theorem aq8(hi:j<4){K:Int}(ax:fy K):DX (fF j) K [iN j]=B (G8 j K,0):=by
 have d:di [iN j] 0=B (iN j):=rfl;have ab:sl (iN j).ed=B T:=kB (z:=λj=>sl (iN j).ed=B T) J J J J hi;have g:sl (iN j).dU=B T:=J;have cN:dq (PE [iN j]) 0=B ():=by
  refine(pX (ao:=1) ?_).trans (mr ?_)<;>unfold PE
  .rw[d,cI,ab,g];rfl
  .rfl
 have b:sq [iN j]=B [iN j]:=by unfold sq;simp only[cQ.cL,pt];exact qq dh dh
 have aj:KQ [iN j] (fF j)=B ():=by
  unfold KQ Qm;have G:rn (U cZ (F ([iN j]:E gl):Int))=B 1:=J;have a:dq (KR (F ([iN j]:E gl):Int) 0 [iN j]<|fF j) ()=B ():=by refine mr ?_;unfold KR Ql;have:dq (WH 0 (F ([iN j]:E gl):Int)) ()=B ():=mr rfl;rw[this];rfl
  rw[G,cI,a];rfl
 unfold DX;rw[hl (y1 j),cN,uh ax,b,cI,cI,cI,aj];have⟨G,a⟩:=ax;have i:U W (K+16)=K+16:=fx I I;unfold Qa wv;rw[i];rfl
omit cR hi in
theorem aq6{K:Int}(ax:fy K):m2 n j (G8 j K):=⟨rfl,rfl,⟨nK 0,(by decide:(0:Int)<65536)⟩,ax,by unfold G8 fy at*;simp only;split<;>omega,⟨nK 0,(by decide:(0:Int)<65536)⟩,ax,⟨EV,.nil⟩,⟨EV,.nil⟩,⟨EV,.nil⟩,⟨EV,.nil⟩,⟨EV,.nil⟩,⟨EV,.nil⟩,ax⟩
omit cR hi in
def ara{r:fH}(h:m2 n j r){C:Int}(ap:fy C):m2 n j {r with gH:=C,gX:=[],hh:=[],hj:=[]}:=⟨h.self,h.iN,h.seq,h.vV,ap,h.lU,h.next,h.mq,h.kJ,⟨dh,.nil⟩,⟨dh,.nil⟩,⟨dh,.nil⟩,h.tb,h.t4⟩
end
def k1(t:E Int)(v:Int)(n:Nat)(cR:n<=8)(k:F t<=140737488355320):hy t v n=B (t++d4 v n):=by
 unfold hy;rw[dr (dd:¬(n:Int)<0),dr (dd:¬(n:Int)>8)];simp only[dm];have aG:U W ((F t:Int)+(n:Int))=((F t+n:Nat):Int):=by rw[fx I I];rfl
 rw[aG];have aD:h4 1 ((F t+n:Nat):Int) ((F t+n:Nat):Int)=B (F t+n):=by unfold h4;rw[dE ⟨I,I,I,I⟩,gz]
 rw[aD,cI];have aQ:k5 (fe (F t+n) (0:Int)) 0 (F<|cQ.cL .c_<|fe (F t+n) (0:Int)) (cQ.cL .c_ t)=t++(d4 v n).take 0++fe (n-0) 0:=by unfold k5;simp only[cQ.cL,ut,HQ,k8,nb,gx,ti];rw[(dd:min (F t) (F t+n)=F t),iV,Vz,(dd:F t+n-F t=n)]
 rw[aQ];have cN:=ow (i:=Jy n t v) (a:=λg=>((g:Int),t++(d4 v n).take g++fe (n-g) 0)) n (r:=t++d4 v n) (λg af=>by
  unfold Jy;dsimp only;have b:U W ((n:Int)-1)=(n:Int)-1:=fx I I;have d:U W ((n:Int)-1-(g:Int))=((n-1-g:Nat):Int):=by rw[fx I I];omega
  have i:U W (8*((n-1-g:Nat):Int))=((8*(n-1-g):Nat):Int):=by rw[fx I I];omega
  have j:U W ((F t:Int)+(g:Int))=((F t+g:Nat):Int):=by rw[fx I I];rfl
  have aP:F (t++(d4 v n).take g++fe (n-g) (0:Int))=F t+n:=by simp only[g9,hO,gY,ut];omega
  rw[dz (dd:(g:Int)<(n:Int)),b,d,i,j,dz (dd:(0:Int)<=((8*(n-1-g):Nat):Int))];simp only[c6,cQ.cL,gx,gz];rw[et I,cI,e6 I,cI,md g I,ZK I I,gz];congr 3;obtain⟨A,a⟩:∃A,n-g=A+1:=⟨n-g-1,I⟩;rw[a,OB,Hi _ _ _ _ agE,ta (FD af),(dd:n-(g+1)=A)];simp) (by
  unfold Jy;dsimp only;rw[dr (dd:¬(n:Int)<(n:Int))];simp only[dm];rw[k9 W9,v2];simp)
 simp only[HP]at cN;rw[cN];rfl
def am2(t:E Int)(v:Int)(n:Nat)(cR:n<=8)(k:F t<=140737488355320):Jw t v n=B (t++d4 v n):=by
 unfold Jw;rw[dr (dd:¬(n:Int)<0),dr (dd:¬(n:Int)>8)];simp only[dm];have aG:U W ((F t:Int)+(n:Int))=((F t+n:Nat):Int):=by rw[fx I I];rfl
 rw[aG];have aD:h4 1 ((F t+n:Nat):Int) ((F t+n:Nat):Int)=B (F t+n):=by unfold h4;rw[dE ⟨I,I,I,I⟩,gz]
 rw[aD,cI];have aQ:k5 (fe (F t+n) (0:Int)) 0 (F<|cQ.cL .c_<|fe (F t+n) (0:Int)) (cQ.cL .c_ t)=t++(d4 v n).take 0++fe (n-0) 0:=by unfold k5;simp only[cQ.cL,ut,HQ,k8,nb,gx,ti];rw[(dd:min (F t) (F t+n)=F t),iV,Vz,(dd:F t+n-F t=n)]
 rw[aQ];have cN:=ow (i:=Jx n t v) (a:=λg=>((g:Int),t++(d4 v n).take g++fe (n-g) 0)) n (r:=t++d4 v n) (λg af=>by
  unfold Jx;dsimp only;have b:U W ((n:Int)-1)=(n:Int)-1:=fx I I;have d:U W ((n:Int)-1-(g:Int))=((n-1-g:Nat):Int):=by rw[fx I I];omega
  have i:U W (8*((n-1-g:Nat):Int))=((8*(n-1-g):Nat):Int):=by rw[fx I I];omega
  have j:U W ((F t:Int)+(g:Int))=((F t+g:Nat):Int):=by rw[fx I I];rfl
  have aP:F (t++(d4 v n).take g++fe (n-g) (0:Int))=F t+n:=by simp only[g9,hO,gY,ut];omega
  rw[dz (dd:(g:Int)<(n:Int)),b,d,i,j,dz (dd:(0:Int)<=((8*(n-1-g):Nat):Int))];simp only[c6,cQ.cL,gx,gz];rw[et I,cI,e6 I,cI,md g I,ZK I I,gz];congr 3;obtain⟨A,a⟩:∃A,n-g=A+1:=⟨n-g-1,I⟩;rw[a,OB,Hi _ _ _ _ agE,ta (FD af),(dd:n-(g+1)=A)];simp) (by
  unfold Jx;dsimp only;rw[dr (dd:¬(n:Int)<(n:Int))];simp only[dm];rw[k9 W9,v2];simp)
 simp only[HP]at cN;rw[cN];rfl
def alR(a o:Int):jD cZ a o=jD cZ o a:=by unfold jD;rw[BitVec.or_comm]
def ajW{v c:Int}(dI:0<=v)(G:v<72057594037927936)(db:0<=c)(a:c<=255):jD cZ (ji cZ v 8) (U cZ c)=v*256+c:=by have e:(2:Int)^(8:Int).toNat=2^8:=rfl;have aD:(256:Int)=2^8:=rfl;rw[Sx I I,ju db I,e,zJ (Vv dI h8) (by rw[<-aD];omega),alR,alQ 8 db I dI (by rw[<-aD];omega)];omega
def ajV(s:E Int)(h:fS s)(b:F s<=8)(g:Nat)(af:g<F s):jD cZ (ji cZ (kW (s.take g)) 8) (U cZ s[g])=kW (s.take (g+1)):=by
 have a:=ajT<|h.take g;have cN:F (s.take g)=g:=yB;have Y:(256:Int)^g<=72057594037927936:=by
  have:g<=7:=I;rcases g with _|_|_|_|_|_|_|_|g
  all_goals first|decide|omega
 rw[cN]at a;have d:=h.jT af;rw[ajW a.1 I d.1 d.2,ta (e6 af),ZD]
def ajU(v:Int)(n:Nat):kW (d4 v n)=v%256^n:=by
 induction n generalizing v with
 |zero=>simp[d4,kW,Int.emod_one]
 |succ n g=>
  have e:d4 v (n+1)=d4 (v/256) n++[v%256]:=by
   apply List.ext_getElem?;intro j;rcases Cr j n with hi|hi|hi
   .rw[FD I,List.getElem?_append_left (by rw[gY];exact hi),FD hi];congr 2;rw[(dd:n+1-1-j=(n-1-j)+1),Nat.mul_add,Int.pow_add];rw[Vf,<-Int.ediv_ediv_of_nonneg h8];rfl
   .subst hi;rw[FD I,rc W9,gY];simp
   .rw[pv EW,pv pJ]
  rw[e,ZD,g,Ve];have G:=VA v 256;have i:=VA (v/256)<|256^n;have Y:(0:Int)<256^n:=Int.pow_pos h8;have k:=VB (v/256)<|Int.ne_of_gt Y;have l:=VC (v/256) Y;have m:=VB v (show(256:Int)≠0 by decide);have o:=VC v (show(0:Int)<256 by decide);have a:v=(v/256%256^n*256+v%256)+(256^n*256)*(v/256/256^n):=by
   have:256*(256^n*(v/256/256^n))=(256^n*256)*(v/256/256^n):=by rw[<-Int.mul_assoc,Vf (256:Int) (256^n)]
   omega
  have b:(0:Int)<=v/256%256^n*256+v%256:=I;have d:v/256%256^n*256+v%256<256^n*256:=I
  conv=>rhs;rw[a]
  rw[Int.add_mul_emod_self_left,zJ b d]
def ae_{s:E Int}(h:fS s)(a:F s<=8):dq (DB s) (0,0)=B (kW s):=by
 have cN:=ow (i:=DB s) (a:=λg=>(kW<|s.take g,(g:Int))) (F s) (r:=kW s) (λg af=>by
  unfold DB;dsimp only;rw[dz (dd:(g:Int)<(F s:Int)),et af];simp only[c6,cI];rw[ajV s h a g af,md g I]) (by
  unfold DB;dsimp only;rw[dr (dd:¬(F s:Int)<(F s:Int))];simp only[dm,iV])
 exact cN
def Uv{l:E Int}(h:fS l)(b:F l<=1000000000000)(j n:Nat)(G:1<=n)(a:n<=8)(hi:j+n<=F l):js l j n=B (kW ((l.drop j).take n),T):=by unfold js;rw[dr (dd:¬(n:Int)<1),dr (dd:¬(n:Int)>8),dr (dd:¬(j:Int)<0),fx I I,dr (dd:¬(j:Int)>(F l:Int)-(n:Int)),fx I I,pr I I I];simp only[dm,cI];rw[show(l.take ((j:Int)+(n:Int)).toNat).drop (j:Int).toNat=(l.drop j).take n by rw[(dd:((j:Int)+(n:Int)).toNat=j+n),gz,List.drop_take,US]];rw[ae_ ((h.drop j).take n) yB];rfl
def dS{ag D:Type}{a:X ag}{v:ag}{f:ag->X D}{r:D}(h:a=B v)(ay:f v=B r):a.bind f=B r:=W_
def gt{ag:Type}{l:Bool}{a o r:ag}(h:l=T)(ay:a=r):(bif l then a else o)=r:=W_
def gL{ag:Type}{l:Bool}{a o r:ag}(h:l=Z)(ay:o=r):(bif l then a else o)=r:=W_
def RJ(s:E Int):sm s s=B T:=by unfold sm;simp
def n2:E Int:=[17,18,19,20,21,22,23,24,25,26,27,28,29,30,31,32]
def akt(c:Int):∃r,dq H5 (c,0)=B r:=by
 have⟨r,h,_⟩:=vJ (i:=H5) (λq=>0<=q.2/\q.2<=8) (λ_=>True) (λq=>(8-q.2).toNat) (by
  rintro⟨t,m⟩ ⟨a,b⟩;dsimp only at a b;unfold H5 H4;dsimp only;by_cases aw:m<8
  .left;rw[dz aw,c6,fx (dd: -9223372036854775808<=m+1) I];cases(f2 fW t 1==1)
   .exact⟨_,rfl,⟨kQ,kQ⟩,kQ⟩
   .exact⟨_,rfl,⟨kQ,kQ⟩,kQ⟩
  .right;rw[dr aw];exact⟨_,rfl,trivial⟩) (c,0) ⟨Ld,by show(0:Int)<=8;omega⟩
 exact⟨r,h⟩
def aks{s:E Int}(cN:F s<=1000):∃v,zR s=B v:=by
 have⟨r,h,_⟩:=vJ (i:=OR s) (λq=>0<=q.2/\q.2<=F s) (λ_=>True) (λq=>((F s:Int)-q.2).toNat) (by
  rintro⟨t,m⟩ ⟨a,b⟩;dsimp only at a b;unfold OR;dsimp only;by_cases aw:m<(F s:Int)
  .left;have⟨r,ay⟩:=akt<|jn fW t<|U fW<|s[m.toNat]'I;rw[dz aw,c6,F8 a aw,fx (dd: -9223372036854775808<=m+1) I];refine⟨(r,m+1),dS rfl (dS ay rfl),⟨kQ,kQ⟩,kQ⟩
  .right;rw[dr aw];exact⟨_,rfl,trivial⟩) (0,0) ⟨Ld,agF⟩
 exact⟨r,dS (dS h rfl) rfl⟩
def MS{s:E Int}(cN:F s<=1000):∃v,Az s=B v:=by
 have⟨r,h,_⟩:=vJ (i:=PW s) (λq=>0<=q.2/\q.2<=F s) (λ_=>True) (λq=>((F s:Int)-q.2).toNat) (by
  rintro⟨t,m⟩ ⟨a,b⟩;dsimp only at a b;unfold PW;dsimp only;by_cases aw:m<(F s:Int)
  .left;rw[dz aw,c6,F8 a aw,fx (dd: -9223372036854775808<=m+1) I,fx (dd: -9223372036854775808<=8*m) I];refine⟨(_,m+1),dS rfl (gt (dz I) rfl),⟨kQ,kQ⟩,kQ⟩
  .right;rw[dr aw];exact⟨_,rfl,trivial⟩) (0,0) ⟨Ld,agF⟩
 exact⟨r,dS h rfl⟩
def B5(a g:Int)(G:0<=f2 cZ (U cZ g) 63)(b:0<=U cZ (64-f2 cZ (U cZ g) 63)):∃v,uJ a g=B v:=by unfold uJ;rw[dz G,dz b];exact⟨_,rfl⟩
def aeo(t:E Int)(n:Int)(dI:0<=n)(cR:n<=10):∃v,KC t n=B v:=by
 have⟨r,h,_⟩:=vJ (i:=PX n) (λq=>0<=q.1/\q.1<=n) (λ_=>True) (λq=>(n-q.1).toNat) (by
  rintro⟨m,q⟩ ⟨i,j⟩;dsimp only at i j;unfold PX;dsimp only;by_cases aw:m<n
  .left;rw[dz aw,c6,fx (dd: -9223372036854775808<=m+1) I];have⟨a,aG⟩:=B5 (q.getD 1 0) 13 lK lK;rw[aG];simp only[cI];have⟨k,aD⟩:=B5 (U cZ<|q.getD 0 0+q.getD 1 0) 32 lK lK;rw[aD];simp only[cI];have⟨b,aQ⟩:=B5 (q.getD 3 0) 16 lK lK;rw[aQ];simp only[cI];have⟨l,aH⟩:=B5 (jn cZ b<|U cZ<|q.getD 2 0+q.getD 3 0) 21 lK lK;rw[aH];simp only[cI];have⟨o,d⟩:=B5 (jn cZ a<|U cZ<|q.getD 0 0+q.getD 1 0) 17 lK lK;rw[d];simp only[cI];have⟨p,g⟩:=B5 (U cZ<|U cZ (q.getD 2 0+q.getD 3 0)+jn cZ a (U cZ<|q.getD 0 0+q.getD 1 0)) 32 lK lK;rw[g];exact⟨_,rfl,⟨kQ,kQ⟩,kQ⟩
  .right;rw[dr aw];exact⟨_,rfl,trivial⟩) (0,t) ⟨Ld,by show(0:Int)<=n;omega⟩
 exact⟨r,dS h rfl⟩
def abC(t:E Int)(a:Int):∃v,KB t a=B v:=by have⟨r,h⟩:=aeo [(t.getD 0 0),(t.getD 1 0),(t.getD 2 0),jn cZ (t.getD 3 0) a] 2 I I;exact⟨_,dS h rfl⟩
def asd{g s:E Int}(t:F g=16)(cN:F s<=1000):∃v,Kz g s=B v:=by
 have⟨i,aG⟩:=MS (s:=lr 8 g) (by simp[lr]);have⟨j,aD⟩:=MS (s:=[(g.getD 8 0),(g.getD 9 0),(g.getD 10 0),(g.getD 11 0),(g.getD 12 0),(g.getD 13 0),(g.getD 14 0),(g.getD 15 0)]) (by show(8:Nat)<=1000;omega);have d:hf W (F s:Int) 8=(F s:Int)/8:=by unfold hf;rw[ux I];exact fx I I
 have⟨r,h,_⟩:=vJ (i:=PV s) (λq=>0<=q.1/\q.1<=(F s:Int)/8) (λ_=>True) (λq=>((F s:Int)/8-q.1).toNat) (by
  rintro⟨m,q⟩ ⟨l,o⟩;dsimp only at l o;unfold PV;dsimp only;rw[d];by_cases aw:m<(F s:Int)/8
  .left;rw[dz aw,c6,fx (dd: -9223372036854775808<=m+1) I,fx (dd: -9223372036854775808<=8*m) I,fx (dd: -9223372036854775808<=8*m+8) I,pr I I I];simp only[cI];have⟨w,b⟩:=MS (s:=(s.take (8*m+8).toNat).drop (8*m).toNat) Xa;have⟨A,a⟩:=abC q w;exact⟨(m+1,A),dS b<|dS a rfl,⟨kQ,kQ⟩,kQ⟩
  .right;rw[dr aw];exact⟨_,rfl,trivial⟩) (0,[jn cZ i 8317987319222330741,jn cZ j 7237128888997146477,jn cZ i 7816392313619706465,jn cZ j 8387220255154660723]) ⟨Ld,by show(0:Int)<=_;omega⟩
 have b:U W (8*((F s:Int)/8))=8*((F s:Int)/8):=fx I I;have⟨p,aQ⟩:=MS (s:=(s.take ((F s:Int)).toNat).drop (8*((F s:Int)/8)).toNat) Xa;have⟨A,a⟩:=abC r<|jD cZ p<|ji cZ (U cZ (F s:Int)) 56;have⟨f,k⟩:=aeo [(A.getD 0 0),(A.getD 1 0),jn cZ (A.getD 2 0) 255,(A.getD 3 0)] 4 I I;refine⟨jn cZ (jn cZ (jn cZ (f.getD 0 0)<|f.getD 1 0)<|f.getD 2 0)<|f.getD 3 0,?_⟩;unfold Kz;refine dS aG<|dS aD<|dS h ?_;rw[d,b];exact dS (pr I I I)<|dS aQ<|dS a<|dS k rfl
def asn{s:E Int}(cN:F s<=1000):∃a b d g,Ay n2 s 4=B ([a,b,d,g],T):=by have⟨v,ab⟩:=asd (g:=n2) rfl cN;refine⟨U cH<|gh cZ v<|U W<|8*0,U cH<|gh cZ v<|U W<|8*1,U cH<|gh cZ v<|U W<|8*2,U cH<|gh cZ v<|U W<|8*3,?_⟩;unfold Ay;refine gL rfl (gL rfl (dS ab<|dS (v:=4) rfl ?_));exact dS (v:=[U cH<|gh cZ v<|U W<|8*0,U cH<|gh cZ v<|U W<|8*1,U cH<|gh cZ v<|U W<|8*2,U cH<|gh cZ v<|U W<|8*3]) J rfl
def he{ag:Type}{d:Nat}(a b:E ag)(g:d<=1000)(h:F a+F b<=100000):ej d a b=B (a++b):=by
 refine i8 ?_ I
 calc(F a+F b)*d<=100000*1000:=Nat.mul_le_mul h g
  _<=140737488355328:=h8
def oz(t l:E Int)(n:Nat)(cR:F t=n):g2 (t++l) (n:Int) (F (t++l):Int)=B l:=by subst cR;have cN:F (t++l)=F t+F l:=g9;rw[pr I I I,gz,gz,iV];simp
def Um(t l:E Int)(n:Nat)(cR:F t=n):g2 (t++l) 0 (n:Int)=B t:=by subst cR;have cN:F (t++l)=F t+F l:=g9;rw[pr I I I];simp
def td(t l:E Int)(n:Nat)(cR:F t=n)(b:fS t)(G:1<=n)(a:n<=8)(cN:F (t++l)<=1000000000000):js (t++l) 0 (n:Int)=B (kW t,T):=by subst cR;have d:F (t++l)=F t+F l:=g9;unfold js;rw[dr (dd:¬(F t:Int)<1),dr (dd:¬(F t:Int)>8),dr (dd:¬(0:Int)<0),fx (dd: -9223372036854775808<=(F (t++l):Int)-(F t:Int)) I,dr (dd:¬(0:Int)>(F (t++l):Int)-(F t:Int)),fx (dd: -9223372036854775808<=0+(F t:Int)) I];simp only[dm,Int.zero_add];rw[Um t l _ rfl,cI,ae_ b a];rfl
def sZ{s:E Int}(h:s.all (λan=>decide (0<=an/\an<=255))=T):fS s:=λan N=>by simpa using List.all_eq_true.1 h an N
def lO(v:Int)(n:Nat)(dI:0<=v)(G:v<256^n):kW (d4 v n)=v:=by rw[ajU,zJ dI G]
def UF(a:Int):U W a=(a+9223372036854775808)%18446744073709551616-9223372036854775808:=by simp[U,oF,rj];split<;>omega
def fN(j:Nat):fj:=⟨3,0,fF j⟩
def om:X Nat->fj
 |none=>⟨2,65535,0⟩
 |some m=>fN m
def f4(j:Nat):E Int:=[2,0,0,0,0,0,0,(j:Int)+1]
def yW:X Nat->E Int
 |none=>[255,255]
 |some m=>f4 m
def pe:X Nat->Int
 |none=>176
 |some _=>240
def nM(i:X Nat):Prop:=∀m,i=B m->m<4
def w3{j:Nat}(hi:j<4):d4 (fF j) 8=f4 j:=kB (z:=λj=>d4 (fF j) 8=f4 j) J J J J hi
def y0{j:Nat}(hi:j<4):kW (f4 j)=fF j:=by rw[<-w3 hi,lO _ _ W2 W2]
def t1{j:Nat}(hi:j<4):fS (f4 j):=by rw[<-w3 hi];exact ko _ _
def Md(i:X Nat):F (yW i)<=8:=by cases i<;>simp[yW,f4]
def Fz(t:fj):fj.fV t t=T:=by unfold fj.fV;simp
def q2(g:Bool):Int:=bif g then 3 else 1
def pi(g:Bool):Int:=bif g then 200 else 72
def Br(g:Bool)(C:Int)(i:X Nat)(j:Nat)(z:E Int):hd:=⟨q2 g,Z,Z,Z,C,1,om i,fN j,0,0,z,[]⟩
def jg(g:Bool)(C:Int)(i:X Nat)(j:Nat)(c:Int)(z a:E Int):hd:=⟨q2 g,Z,Z,T,C,1,om i,fN j,c,1,z,a⟩
variable{g:Bool}{C:Int}{i:X Nat}{j:Nat}{c:Int}{z:E Int}
def akN(Y:F z<=95)(a b d k:Int):de (xR (jg g C i j c z [a,b,d,k])) λv=>v<=127:=by
 unfold xR CM CK;cases g<;>cases i<;>simp only[jg,om,fN,q2,c6,dm,cI,dg,(J:((1:Int) !=2)=T),(J:((3:Int) !=2)=T),(J:((3:Int)==2)=Z),(J:((2:Int)==2)=T),(J:((3:Int)==3)=T),l6,kv]<;>
 .simp only[UF];omega
def akO(Y:F z<=95):de (xR (Br g C i j z)) λv=>v<=127:=by
 unfold xR CM CK;cases g<;>cases i<;>simp only[Br,om,fN,q2,c6,dm,cI,dg,(J:((1:Int) !=2)=T),(J:((3:Int) !=2)=T),(J:((3:Int)==2)=Z),(J:((2:Int)==2)=T),(J:((3:Int)==3)=T),l6,kv]<;>
 .simp only[UF];omega
def R4:tx (om i)=B T:=Lj
def R3:((om i).Mode==0)=Z:=Lj
def Gm:tx (fN j)=B T:=rfl
def SN:zQ (fN j)=B Z:=rfl
def FZ(Y:F z<=95)(a b d k:Int):qC (jg g C i j c z [a,b,d,k])=B T:=by
 have⟨v,ab,h⟩:=akN (g:=g) (C:=C) (i:=i) (j:=j) (c:=c) Y a b d k;have:we (jg g C i j c z [a,b,d,k])=B T:=by unfold we;rw[ab];refine dS R4<|gt rfl (gL R3<|dS (v:=T) Gm<|gt rfl (gL rfl (dS (v:=Z) SN<|gL rfl (gL rfl (gt rfl (gL rfl ?_))))));rw[cI,dz h]
 unfold qC zX;rw[this];cases g<;>rfl
def akQ(Y:F z<=95):qC (Br g C i j z)=B T:=by
 have⟨v,ab,h⟩:=akO (g:=g) (C:=C) (i:=i) (j:=j) Y;have:we (Br g C i j z)=B T:=by unfold we;rw[ab];refine dS R4<|gt rfl (gL R3<|dS (v:=T) Gm<|gt rfl (gL rfl (dS (v:=Z) SN<|gL rfl (gL rfl (gL rfl (gL rfl (gL rfl (gL rfl ?_))))))));rw[cI,dz h]
 unfold qC zX;rw[this];cases g<;>rfl
def jt(g:Bool)(C:Int)(i:X Nat)(j:Nat)(c:Int)(z:E Int):E Int:=[pi g]++([pe i]++([C]++([0,1]++(yW i++(f4 j++(d4 c 4++([1]++z)))))))
def Sl:F (jt g C i j c z)<=26+F z:=by have:=Md i;simp only[jt,f4,g9,l6,kv,gY];omega
def Zr(t:E Int)(a:nM i)(b:F t<=100):CL t (om i)=B (t++yW i):=by
 unfold CL;cases i with
 |none=>refine gt rfl (dS (v:=t++d4 65535 2) (k1 t 65535 2 I I) ?_);rfl
 |some m=>refine gL rfl (dS (v:=t++f4 m) ?_ rfl);rw[<-w3 (a m rfl)];exact k1 t (fF m) 8 I I
def aaT(d:nM i)(hi:j<4)(a:0<=c/\c<4294967296)(Y:F z<=95)(b A:E Int):CJ (jg g C i j c z b) A=B (jt g C i j c z):=by
 have ad:=Md i;have k:=Md<|B j;unfold CJ;refine dS (v:=0) rfl (dS (v:=0) rfl (dS (v:=8) rfl (gt EX ?_)));refine dS (v:=[pi g,pe i,C,0,1]) ?_ ?_
 .cases g<;>cases i<;>kernel_rfl
 refine dS (Zr _ d dh) (dS (Zr (i:=B j) _ (λm h=>by cases h;exact hi) fv)<|gt rfl ?_);refine dS (v:=[pi g,pe i,C,0,1]++yW i++f4 j++d4 c 4) ?_ ?_
 .rw[show U cZ (jg g C i j c z b).eJ=c from ju a.1 (by have:=a.2;show c<_;omega)];exact k1 _ _ 4 I (by simp[f4];omega)
 refine dS (v:=[pi g,pe i,C,0,1]++yW i++f4 j++d4 c 4++[1]) (he _ _ I (by simp[f4,gY,cQ.cL];omega)) ?_;refine dS (v:=jt g C i j c z) ?_ rfl;refine(he _ _ I ?_).trans ?_
 .show F (_:E Int)+F z<=_;simp[f4,gY];omega
 .show B (_++z)=B (jt g C i j c z);simp[jt]
def aaS(m:nM i)(hi:j<4)(l:0<=c/\c<4294967296)(Y:F z<=95)(a b d k:Int):wd (jg g C i j c z [a,b,d,k])=B (jt g C i j c z):=by unfold wd;exact dS (FZ Y a b d k)<|gt rfl (aaT m hi l Y _ _)
def alr(b:nM i)(hi:j<4)(a:0<=c/\c<4294967296)(Y:F z<=95):wd (jg g C i j c z [])=B (jt g C i j c z):=by
 unfold wd;have:qC (jg g C i j c z [])=B Z:=by
  have:we (jg g C i j c z [])=B Z:=by unfold we;exact dS R4<|gt rfl (gL R3<|dS (v:=T) Gm<|gt rfl (gL rfl (dS (v:=Z) SN<|gL rfl (gL rfl (gt rfl (gt rfl rfl))))))
  unfold qC zX;rw[this];cases g<;>rfl
 refine dS this (gL rfl (dS (v:=4) rfl ?_));exact dS (FZ Y 0 0 0 0)<|gt rfl (aaT b hi a Y _ _)
def qO(g:Bool)(C:Int)(i:X Nat)(j:Nat)(c:Int)(z:E Int)(a b d k v:Int):E Int:=jt g C i j c z++[a,b,d,k]++[U cH v,U cH (gh fW v 8)]
def ZB(a b d k v:Int):F (qO g C i j c z a b d k v)<=32+F z:=by have:=Sl (g:=g) (C:=C) (i:=i) (j:=j) (c:=c) (z:=z);simp only[qO,g9,l6,kv];omega
def aag(o:nM i)(hi:j<4)(m:0<=c/\c<4294967296)(Y:F z<=95)(a b d k:Int){v:Int}(ab:zR (jt g C i j c z++[a,b,d,k])=B v):zW (jg g C i j c z [a,b,d,k])=B (qO g C i j c z a b d k v,0):=by
 have cN:=Sl (g:=g) (C:=C) (i:=i) (j:=j) (c:=c) (z:=z);unfold zW;refine dS (FZ Y a b d k)<|gt rfl ?_;refine dS (aaS o hi m Y a b d k) ?_;refine dS (v:=jt g C i j c z++[a,b,d,k]) (he _ _ I (by show F (jt g C i j c z)+4<=_;omega)) ?_;refine dS (v:=qO g C i j c z a b d k v) ?_ rfl;unfold OP;refine dS ab ?_;obtain⟨A,l⟩:∃A:Nat,F (jt g C i j c z++[a,b,d,k])=A:=⟨_,rfl⟩;have p:A<=200:=by rw[<-l];simp only[g9,l6,kv];omega
 rw[l,fx (dd: -9223372036854775808<=(A:Int)+2) I];refine dS (v:=0) ?_ ?_
 .unfold h4;rw[dE ⟨I,I,I,I⟩];rfl
 refine dS (v:=jt g C i j c z++[a,b,d,k]) (he [] _ I oe) ?_;exact dS (v:=qO g C i j c z a b d k v) (he _ _ I oe) rfl
def akP(t:nM i)(hi:j<4)(s:0<=c/\c<4294967296)(ap:0<=C/\C<256)(Y:F z<=95)(b d k l:Int):Ij (jt g C i j c z++[b,d,k,l])=B (jg g C i j c z [b,d,k,l],T):=by
 have ad:=Md i;have x:F (f4 j)=8:=rfl;have e:jt g C i j c z++[b,d,k,l]=[pi g]++([pe i]++([C]++([0,1]++(yW i++(f4 j++(d4 c 4++([1]++(z++[b,d,k,l])))))))):=by simp only[jt,iu]
 rw[e];have K:F (z++[b,d,k,l])=F z+4:=dh;have Q:kW [pi g]=pi g:=EX;have A:kW [pe i]=pe i:=Lj;have S:kW [C]=C:=by have:=lO C 1 ap.1 I;rwa[(J:d4 C 1=[C/1%256]),(dd:C/1%256=C)]at this
 have y:U e9 (kW<|d4 c 4)=c:=by rw[lO _ _ s.1 (by have:=s.2;omega),xz s.1 s.2]
 have D:U W ((F (z++[b,d,k,l]):Int)-4)=(F z:Int):=by rw[K,fx I I];omega
 have P:∀p:Int×Int×E Int,fj.mk (U W<|f2 cH (gh cH (U cH<|pe i) 6) 3) p.1 p.2.1=om i->CO (pi g,T) (C,T) (1,T) (pe i,T) p (0,fF j,d4 c 4++([1]++(z++[b,d,k,l])))=B (jg g C i j c z [b,d,k,l],T):=by intro p q;unfold CO;refine gt EX ?_;refine dS (td (d4 c 4) _ 4 (gY _ _) (ko _ _) I I pJ)<|gt rfl (dS (oz (d4 c 4) _ 4<|gY _ _) ?_);refine dS (td [1] _ 1 rfl (sZ rfl) I I fv)<|gt rfl (dS (oz [1] _ 1 rfl) ?_);rw[D];refine gL (dr I)<|dS (Um z _ _ rfl)<|dS (he [] z I fv) ?_;refine dS (oz z _ _ rfl)<|dS (he [] [b,d,k,l] I dh) ?_;show B (hd.mk (U W<|gh cH (U cH<|pi g) 6) (f2 cH (U cH<|pi g) 32 !=0) (f2 cH (U cH<|pi g) 16 !=0) (f2 cH (U cH<|pi g) 8 !=0) (U cH C) _ (fj.mk (U W<|f2 cH (gh cH (U cH<|pe i) 6) 3) p.1 p.2.1) (fj.mk (U W<|f2 cH (gh cH (U cH<|pe i) 4) 3) 0<|fF j) (U e9<|kW<|d4 c 4) _ ([]++z)<|[]++[b,d,k,l],T)=_;rw[y,q,k8,k8,N9 ap.1 ap.2];cases g<;>cases i<;>kernel_rfl
 have u:∀p:Int×Int×E Int,fj.mk (U W<|f2 cH (gh cH (U cH<|pe i) 6) 3) p.1 p.2.1=om i->p.2.2=f4 j++(d4 c 4++([1]++(z++[b,d,k,l])))->CN (pe i,T) (pi g,T) (C,T) (1,T) p=B (jg g C i j c z [b,d,k,l],T):=by rintro⟨a,o,an⟩ q N;simp only at q N;subst N;unfold CN;refine gL (by cases i<;>kernel_rfl) (gt (by cases i<;>kernel_rfl) ?_);refine dS (td (f4 j) _ 8 rfl (t1 hi) I I EY)<|gt rfl (dS (oz (f4 j) _ 8 rfl) ?_);rw[show kW (f4 j)=fF j from y0 hi];exact P (a,o,_) q
 unfold Ij;refine dS (v:=(pi g,T)) ((td [pi g] _ 1 rfl (sZ EX) I I EY).trans (by rw[Q])) (gt rfl (dS (oz [pi g] _ 1 rfl) ?_));refine dS (v:=(pe i,T)) ((td [pe i] _ 1 rfl (sZ Lj) I I EY).trans (by rw[A])) (gt rfl (dS (oz [pe i] _ 1 rfl) ?_));refine dS (v:=(C,T)) ((td [C] _ 1 rfl (λan N=>agG) I I EY).trans (by rw[S])) (gt rfl (dS (oz [C] _ 1 rfl) (gt EX ?_)));refine dS (v:=(1,T)) ((td [0,1] _ 2 rfl (sZ rfl) I I EY).trans rfl)<|gt rfl (dS (oz [0,1] _ 2 rfl) ?_);cases i with
 |none=>refine gt J ?_;refine dS (v:=(65535,T)) ((td [255,255] _ 2 rfl (sZ rfl) I I EY).trans rfl)<|gt rfl (dS (oz [255,255] _ 2 rfl) ?_);exact u _ J rfl
 |some m=>refine gL J<|gt J ?_;refine dS (v:=(fF m,T)) ((td (f4 m) _ 8 rfl (t1<|t m rfl) I I (by simp[gY,x,(J:F (f4 m)=8)];omega)).trans (by rw[y0 (t m rfl)])) (gt rfl (dS (oz (f4 m) _ 8 rfl) ?_));exact u _ J rfl
def K7(g:Bool)(C:Int)(i:X Nat)(j:Nat)(c:Int)(z l:E Int)(m:E Int):Prop:=∃a b d k v,m=[a,b,d,k]/\Ay n2 (jt g C i j c z) 4=B ([a,b,d,k],T)/\zR (jt g C i j c z++[a,b,d,k])=B v/\l=qO g C i j c z a b d k v
theorem akM(q:nM i)(hi:j<4)(p:0<=c/\c<4294967296)(ap:0<=C/\C<256)(Y:F z<=95){l t:E Int}(h:K7 g C i j c z l t):Ih l=B (jg g C i j c z t,0):=by
 obtain⟨a,b,d,k,v,rfl,_,ab,rfl⟩:=h;have cN:=ZB (g:=g) (C:=C) (i:=i) (j:=j) (c:=c) (z:=z) a b d k v;obtain⟨A,m⟩:∃A:Nat,F (jt g C i j c z++[a,b,d,k])=A:=cU;have u:F (qO g C i j c z a b d k v)=A+2:=by rw[<-m];simp[qO]
 have x:5<=A:=by rw[<-m];simp[jt]<;>omega
 unfold Ih;refine gL ef<|gL ef ?_;have o:U W ((F (qO g C i j c z a b d k v):Int)-2)=(A:Int):=by rw[fx I I,u];omega
 have s:g2 (qO g C i j c z a b d k v) 0 (A:Int)=B (jt g C i j c z++[a,b,d,k]):=Um (jt g C i j c z++[a,b,d,k]) _ _ m;refine dS (v:=T) ?_<|gt rfl ?_
 .unfold OQ;rw[o];refine gL (dr I)<|dS s<|dS ab ?_;refine dS (v:=U cH v) ?_<|gt dh ?_
  .rw[Mz,<-m];unfold qO;rw[rc (jq _),v2];rfl
  refine dS (v:=U cH<|gh fW v 8) ?_ dh;rw[md _ I,Mz,<-m];unfold qO;rw[rc I,US];rfl
 rw[o];refine dS s ?_;refine dS (akP q hi p ap Y a b d k)<|gt rfl ?_;refine dS (aag q hi p Y a b d k ab)<|gL rfl ?_;exact dS (RJ _) rfl
def Fy(z:e_)(c:Int):X e_:=
 if c>z.gV then B (e_.mk z.dU z.hJ c<|jD e9 (ji e9 z.kT<|c-z.gV) 1)
 else if z.gV-c>=32\/f2 e9 (gh e9 z.kT<|z.gV-c) 1=1 then M
 else B<|e_.mk z.dU z.hJ z.gV<|jD e9 z.kT<|ji e9 1<|z.gV-c
def iK(a:Int):Prop:=0<=a/\a<=4294967295
def aiZ{z:e_}(cN:iK z.gV){c:Int}(d:iK c):CQ z c=B (match Fy z c with
  |some C=>(C,0)
  |none=>(e_.mk (fj.mk 0 0 0) 0 0 0,13)):=by
 unfold iK at cN d;unfold CQ Fy;by_cases G:c>z.gV
 .rw[dz G,dE G,xz I I,dz I];rfl
 rw[dr G,dA G,dm,xz (a:=z.gV-c) I I];by_cases a:z.gV-c>=32
 .rw[dz a,dE dd];rfl
 rw[dr a,dm,dz dd,c6];by_cases b:f2 e9 (gh e9 z.kT<|z.gV-c) 1=1
 .rw[beq_iff_eq.2 b,dE dd];rfl
 .rw[hl b,dA I];rfl
def mv(w:Int)(j:Nat):Bool:=w.toNat.testBit j
def S3{w:Int}(h:0<=w/\w<=4294967295):(n8 32 w).toNat=w.toNat:=by rw[BitVec.toNat_ofInt];omega
def alS{a o:Int}(d:0<=a/\a<=4294967295)(ad:0<=o/\o<=4294967295):jD e9 a o=((a.toNat|||o.toNat:Nat):Int):=by
 have e:jD e9 a o=U e9 (((n8 32 a|||BitVec.ofInt 32 o).toNat:Nat):Int):=rfl;have b:a.toNat|||o.toNat<2^32:=Nat.or_lt_two_pow I I
 rw[e,BitVec.toNat_or,S3 d,S3 ad,uk];omega
def aa2(a o:Int):0<=jD e9 a o/\jD e9 a o<=4294967295:=by have e:jD e9 a o=U e9 (((n8 32 a|||BitVec.ofInt 32 o).toNat:Nat):Int):=rfl;rw[e,uk];omega
def afy{a o:Int}(d:0<=a/\a<=4294967295)(ad:0<=o/\o<=4294967295)(j:Nat):mv (jD e9 a o) j=(mv a j||mv o j):=by unfold mv;rw[alS d ad,gz,Nat.testBit_or]
def aeC(a i:Int):0<=ji e9 a i/\ji e9 a i<=4294967295:=by unfold ji;rw[uk];omega
def afz{a i:Int}(d:0<=a/\a<=4294967295)(g:0<=i){j:Nat}(hi:j<32):mv (ji e9 a i) j=(decide (i<=j)&&mv a (j-i.toNat)):=by
 unfold mv ji;obtain⟨t,rfl⟩:∃t:Nat,a=(t:Int):=⟨a.toNat,I⟩;obtain⟨n,rfl⟩:∃n:Nat,i=(n:Int):=⟨i.toNat,I⟩;have b:e9.bits=32:=rfl;rw[uk,b,gz,gz];generalize k:min n 32=A;have e:((t:Int)*2^A%4294967296).toNat=(2^A*t)%2^32:=by
  have:((t:Int)*2^A%4294967296)=((t*2^A%2^32:Nat):Int):=by rw[Int.natCast_emod,Int.natCast_mul,Oj];rfl
  rw[this,gz,Nat.mul_comm]
 rw[e,Nat.testBit_mod_two_pow,decide_eq_true hi,Cj,Nat.testBit_two_pow_mul];by_cases cR:n<=32
 .rw[(dd:A=n)];congr 1
  .exact decide_eq_decide.2 I
 .rw[decide_eq_false dd,decide_eq_false dd];rfl
def afx(j:Nat):mv 1 j=decide (j=0):=by unfold mv;rw[(J:(1:Int).toNat=2^0),Nat.testBit_two_pow];exact decide_eq_decide.2 I
def atb{i:Int}(b:0<=i){j:Nat}(hi:j<32):mv (ji e9 1 i) j=decide ((j:Int)=i):=by
 rw[afz I b hi,afx];by_cases h:(j:Int)=i
 .rw[decide_eq_true h,decide_eq_true dd,decide_eq_true dd];rfl
 .rw[decide_eq_false h];by_cases a:i<=j
  .rw[decide_eq_false (dd:¬j-i.toNat=0),Bool.and_false]
  .rw[decide_eq_false a];rfl
def afw{j:Nat}(hi:j<32):mv 4294967295 j=T:=by unfold mv;rw[(J:(4294967295:Int).toNat=2^32-1),Nat.testBit_two_pow_sub_one];exact decide_eq_true hi
theorem afA{w l:Int}(d:0<=w/\w<=4294967295)(b:0<=l/\l<32):(f2 e9 (gh e9 w l) 1=1)↔mv w l.toNat=T:=by
 obtain⟨t,rfl⟩:∃t:Nat,w=(t:Int):=⟨w.toNat,I⟩;obtain⟨n,rfl⟩:∃n:Nat,l=(n:Int):=⟨l.toNat,I⟩;have a:e9.bits=32:=rfl;have e:gh e9 (t:Int) (n:Int)=((t>>>n:Nat):Int):=by unfold gh;rw[a,gz,(dd:min n 32=n),OC,Va _ ef,Vu,Oj];rfl
 have aX:t>>>n<2^32:=by rw[OC];exact Nat.lt_of_le_of_lt (Nat.div_le_self _ _) I
 have aD:∀C:Nat,C<2^32->f2 e9 (C:Int) 1=((C%2:Nat):Int):=λC ap=>by have e:f2 e9 (C:Int) 1=U e9 (((n8 32 (C:Int)&&&n8 32 1).toNat:Nat):Int):=rfl;rw[e,BitVec.toNat_and,S3 I,gz,show(n8 32 1).toNat=1 by decide,Nat.and_one_is_mod,uk];omega
 rw[e,aD _ aX];unfold mv;rw[gz,gz,Nat.testBit_eq_decide_div_mod_eq,OC,i6];constructor<;>intro h<;>omega
structure LF(z:e_)(a:Int->Bool):Prop where
 abe:0<=z.gV/\z.gV<=4294967295
 ip:0<=z.kT/\z.kT<=4294967295
 FE:∀j:Nat,j<32->mv z.kT j=a (z.gV-j)
 NX:∀c,z.gV<c->a c=Z
def xu(b:Int->Bool)(c:Int):Int->Bool:=λa=>decide (a=c)||b a
theorem ai0{z:e_}{b:Int->Bool}(w:LF z b){c:Int}(o:0<=c/\c<=4294967295):
  (∃C,Fy z c=B C/\C.dU=z.dU/\C.hJ=z.hJ/\C.gV=max z.gV c/\LF C (xu b c)/\b c=Z/\z.gV-c<32)\/(Fy z c=M/\(32<=z.gV-c\/b c=T)):=by
 obtain⟨p,q⟩:=w.abe;obtain⟨i,l⟩:=w.ip;unfold Fy;by_cases G:c>z.gV
 .left;rw[dE G];have kh:=aeC z.kT<|c-z.gV;refine⟨_,rfl,rfl,rfl,kQ,⟨o,aa2 _ _,?_,?_⟩,w.NX c G,I⟩
  .intro j hi;dsimp only[xu];rw[afy kh I,afz ⟨i,l⟩ I hi,afx];by_cases dI:j=0
   .subst dI;simp
   .rw[decide_eq_false dI,Bool.or_false,decide_eq_false (dd:¬c-(j:Int)=c),Bool.false_or];by_cases g:c-z.gV<=(j:Int)
    .rw[decide_eq_true g,Cj,w.FE _ I];congr 1;omega
    .rw[decide_eq_false g,Bool.false_and,w.NX _ I]
  .intro a d;dsimp only at d;dsimp only[xu];rw[w.NX a I,decide_eq_false I];rfl
 .rw[dA G];by_cases g:z.gV-c>=32
  .right;rw[dE dd];exact cU
  have m:mv z.kT (z.gV-c).toNat=b c:=by rw[w.FE _ I];congr 1;omega
  have ax:=afA (w:=z.kT) (l:=z.gV-c) dd dd;rw[m]at ax;by_cases k:b c=T
  .right;rw[dE cU];exact cU
  .left;rw[dA cU];refine⟨_,rfl,rfl,rfl,kQ,⟨cU,aa2 _ _,?_,?_⟩,Xz,I⟩
   .intro j hi;dsimp only[xu];rw[afy ⟨i,l⟩ (aeC _ _),atb I hi,w.FE j hi,Bool.or_comm];congr 1;exact decide_eq_decide.2 I
   .intro a d;dsimp only at d;dsimp only[xu];rw[w.NX a d,decide_eq_false I];rfl
def sE(z:e_)(a:Int):Prop:=32<=z.gV-a\/(a<=z.gV/\mv z.kT (z.gV-a).toNat=T)
def B3(z:e_):Int->Bool:=λa=>decide (a<=z.gV/\z.gV-a<32)&&mv z.kT (z.gV-a).toNat
def arc{z:e_}(cN:iK z.gV)(a:iK z.kT):LF z (B3 z):=
 ⟨cN,a,λj hi=>by unfold B3;rw[dz dd,Cj];congr 1;omega,λc b=>by unfold B3;rw[dr dd];rfl⟩
def aeb{C:e_}{b:Int->Bool}(w:LF C b){a:Int}(d:a<=C.gV)(h:32<=C.gV-a\/b a=T):sE C a:=by
 by_cases G:32<=C.gV-a
 .exact .inl G
 .refine .inr ⟨d,?_⟩;rw[w.FE _ I];rcases h with h|h
  .omega
  .rw[<-h];congr 1;omega
def am3{w:Int}(a:iK w):((f2 e9 w 1==1)=T)↔mv w 0=T:=by have:=afA (w:=w) (l:=0) a I;rw[show gh e9 w 0=w by unfold gh;simp]at this;rw[beq_iff_eq,this];rfl
def aiY{z:e_}(cN:iK z.gV)(m:iK z.kT)(cK:mv z.kT 0=T){c:Int}(j:iK c):de (CQ z c) λv=>(v.2=13)\/(v.2=0/\v.1.dU=z.dU/\v.1.hJ=z.hJ/\iK v.1.gV/\iK v.1.kT/\mv v.1.kT 0=T/\¬sE z c/\sE v.1 c/\∀a,sE z a->sE v.1 a):=by
 rw[aiZ cN j,dg];rcases ai0 (arc cN m) j with⟨C,G,k,l,o,b,i,p⟩|⟨G,_⟩
 .rw[G];refine .inr ⟨rfl,k,l,b.abe,b.ip,?_,?_,?_,?_⟩
  .rw[b.FE 0 I];unfold xu;by_cases h:C.gV=c
   .simp[h]
   .have e:C.gV=z.gV:=by omega
    rw[(dd:C.gV-((0:Nat):Int)=z.gV)];unfold B3;rw[dz (dd:z.gV<=z.gV/\z.gV-z.gV<32),(dd:(z.gV-z.gV).toNat=0),cK];simp
  .rintro(h|⟨h,g⟩)
   .omega
   .unfold B3 at i;rw[dz (dd:c<=z.gV/\z.gV-c<32),g]at i;simp at i
  .exact aeb b I<|.inr (by unfold xu;simp)
  .intro a d;refine aeb b (by rcases d with h|h<;>omega) ?_;by_cases h:32<=C.gV-a
   .exact .inl h
   .refine .inr ?_;rcases d with aF|⟨aF,g⟩
    .omega
    .unfold xu B3;rw[dz (dd:a<=z.gV/\z.gV-a<32),g];simp
 .rw[G];exact .inl rfl
def E_(n j:Nat)(z:e_):Prop:=(∃m,m<n/\m≠j/\z.dU=fN m)/\z.hJ=1/\iK z.gV/\iK z.kT/\mv z.kT 0=T
def hI(z:e_):Nat:=hX z.dU.h1
structure qF(n j:Nat)(x:eR):Prop where
 rP:x.jj=[⟨1,n2⟩]
 jQ:0<=x.eJ/\x.eJ<=x.h3
 res:x.h3<=4294967295
 t9:iK x.it
 all:∀z∈x.d8,E_ n j z
 r4:iy hI x.d8
def E_.lt{n j:Nat}{z:e_}(h:E_ n j z):hI z<n:=by have⟨⟨m,aw,_,e⟩,_⟩:=h;unfold hI;rw[e];show hX (fF m)<n;rw[rR];exact aw
def E_.kJ{n j:Nat}{z:e_}(h:E_ n j z):z.dU=fN (hI z):=by have⟨⟨m,aw,_,e⟩,_⟩:=h;unfold hI;rw[e];show _=fN (hX<|fF m);rw[rR]
def qF.len{n j:Nat}{x:eR}(h:qF n j x):F x.d8<=n:=h.r4.len λz Y=>(h.all z Y).lt
def akh{t l:Nat}(a:t<4)(b:l<4):wb (fN t) (fN l)=B (iE t l):=by refine wW (z:=λj m=>wb (fN j) (fN m)=B (iE j m)) (λj hi=>?_) a b;refine kB (z:=λj=>wb (fN j) (fN 0)=B (iE j 0)/\wb (fN j) (fN 1)=B (iE j 1)/\wb (fN j) (fN 2)=B (iE j 2)/\wb (fN j) (fN 3)=B (iE j 3)) ?_ ?_ ?_ ?_ hi<;>exact⟨J,J,J,J⟩
def aqn(t l:Nat):wc [iE t l,0]=B (iE t l):=by
 unfold iE;split
 .kernel_rfl
 .split<;>kernel_rfl
def ZU{z C:e_}{t l:Nat}(g:t<4)(i:l<4)(G:z.dU=fN t)(a:C.dU=fN l)(b:z.hJ=1)(d:C.hJ=1):CR z C=B (iE t l):=by unfold CR;rw[G,a,b,d,akh g i,cI,(J:OU 1 1=B 0),cI,aqn];rfl
def SE{x:eR}(h:x.jj=[⟨1,n2⟩]):zZ x 1=B (n2,T):=by unfold zZ;rw[mr (r:=(n2,T)) (by unfold O_;rw[h];rfl)];rfl
def F4{n j:Nat}(cR:n<=4){x:eR}(h:qF n j x):wg x=B T:=by
 have aP:=h.len;have G:O3 x.jj=B T:=by rw[h.rP];kernel_rfl
 have i:Io x.d8=B T:=by
  unfold Io;obtain⟨p,aA,_⟩:de (dq (O4 x.d8) 1) λ_=>True:=by
   refine hk (λq=>∃g:Nat,q=(g:Int)/\1<=g) (λq=>((F x.d8:Int)-q).toNat) (λq aj=>?_) ⟨1,rfl,I⟩;obtain⟨g,rfl,af⟩:=aj;unfold O4;by_cases a:g<F x.d8
   .have aG:=h.all _ (fi a);have aD:=h.all _ (fi (dd:g-1<F x.d8));have aX:=h.r4.jT (j:=g-1) (m:=g) I a;rw[dO,dz a,c6,show U W ((g:Int)-1)=((g-1:Nat):Int) by rw[fx I I];omega,et (dd:g-1<F x.d8),et a,cI,cI,ZU (by have:=aD.lt;omega) (by have:=aG.lt;omega) aD.kJ aG.kJ aD.2.1 aG.2.1,cI,dr (λC=>by have:=akk.1 C;omega),dm,e7 I,dg];exact .inl ⟨_,rfl,⟨g+1,rfl,I⟩,I⟩
   .rw[dO,dr a,dm,dg];exact .inr ⟨_,rfl,trivial⟩
  rw[aA];rfl
 have k:dq (In x) 0=B ():=by
  refine nr (Q:=F x.d8) (λg af=>?_) ?_
  .have⟨⟨m,aG,aD,aQ⟩,aH,l,b,d⟩:=h.all _ (fi af);have:Iq x x.d8[g]=B T:=by unfold Iq;rw[aQ,aH,SE h.rP];refine dS (v:=T) rfl (gt rfl (gL rfl (dS (v:=Z) rfl (gL rfl ?_))));rw[cI,c6,(am3 b).2 d]
   unfold In;rw[dO,dz af,c6,et af,cI,this,cI,c6,e7 I]
  .unfold In;rw[dO,dr I,dm]
 unfold wg;have o:=h.jQ;rw[G,i,k,h.rP,dr (dd:¬x.eJ>x.h3),dr (dd:¬(F x.d8:Int)>16)];rfl
def Sk{n j:Nat}(cR:n<=4){x:eR}(h:qF n j x):CS x=B x/\Ip x=B x:=by
 have aP:=h.len;constructor
 .unfold CS O5 O7;rw[i8 QF QF,i8 oe oe];rfl
 .unfold Ip O6 O8;rw[i8 QF QF,i8 oe oe];rfl
def aax{n j:Nat}(cR:n<=4){x:eR}(h:qF n j x):de (zY x 65536) λv=>v.2=0/\qF n j v.1/\v.1.eJ=x.eJ/\v.1.it=x.it/\v.1.d8=x.d8/\v.1.h3=min (x.h3+65536) 4294967295:=by
 have a:=h.jQ;have b:=h.res;unfold zY;rw[F4 cR h,(Sk cR h).1];simp only[cI,c6];rw[(J:((65536:Int)==0)=Z),dm,dg];have e:U e9 (x.h3+(if U e9 (4294967295-x.h3)<65536 then U e9 (4294967295-x.h3)else 65536))=min (x.h3+65536) 4294967295:=by
  rw[xz (a:=4294967295-x.h3) I I];split
  .rw[xz I I];omega
  .rw[xz I I];omega
 rw[e];exact⟨rfl,⟨h.rP,⟨a.1,ew⟩,ew,h.t9,h.all,h.r4⟩,rfl,rfl,rfl,rfl⟩
def ala{n j:Nat}(cR:n<=4)(hi:j<n){x:eR}(h:qF n j x)(aR:x.eJ≠x.h3){g:Bool}{C:Int}{i:X Nat}(p:nM i){z:E Int}(Y:F z<=95):∃m l,K7 g C i j x.eJ z l m/\Im x (Br g C i j z) 1=B ({x with eJ:=x.eJ+1},jg g C i j x.eJ z m,0)/\zW (jg g C i j x.eJ z m)=B (l,0):=by
 have q:=h.jQ;have s:=h.res;have o:0<=x.eJ/\x.eJ<4294967296:=I;have cN:=Sl (g:=g) (C:=C) (i:=i) (j:=j) (c:=x.eJ) (z:=z);have⟨a,b,d,k,ax⟩:=asn (s:=jt g C i j x.eJ z) I;have⟨v,ab⟩:=aks (s:=jt g C i j x.eJ z++[a,b,d,k]) (by simp only[g9,l6,kv];omega);refine⟨[a,b,d,k],qO g C i j x.eJ z a b d k v,⟨a,b,d,k,v,rfl,ax,ab,rfl⟩,?_,aag p I o Y a b d k ab⟩;unfold Im;refine dS (F4 cR h)<|gt rfl ?_;refine dS (akQ Y)<|gt rfl (gL EX<|gL rfl ?_);refine dS (SE h.rP)<|gt rfl (gL (hl aR) ?_);refine dS (alr p I o Y)<|dS ax ?_;refine dS (FZ Y a b d k)<|gt rfl ?_;refine dS (v:=z) ?_ ?_
 .unfold O9;exact dS (he [] z I (by show 0+F z<=_;omega)) rfl
 refine dS (Sk cR h).1 ?_;rw[xz (a:=x.eJ+1) I I];rfl
def rr(x:eR)(m:Nat)(a:Int):Prop:=∃z∈x.d8,hI z=m/\sE z a
def oR(x:eR)(m:Nat):Prop:=∃z∈x.d8,hI z=m
def m8(l:Int)(v:Int):E Int:=[l]++d4 v 4
structure yw(n r:Nat)(x ai:eR)(g:Bool)(j:Nat)(c:Int)(z:E Int):Prop where
 ok:qF n r ai
 jQ:ai.eJ=x.eJ
 res:ai.h3=x.h3
 t9:ai.it=x.it
 Sn:(oR x j/\¬rr x j c)\/(¬oR x j/\g=T/\z=m8 2 x.it/\∀a,a<=c->rr ai j a)
 aaz:rr ai j c
 gJ:∀m a,rr x m a->rr ai m a
 aaO:∀m,oR ai m↔oR x m\/m=j
def amF{l v:Int}(h:iK v):xT l v=B (m8 l v):=by unfold xT iK at*;rw[ju I I];exact dS (k1 [l] v 4 I dh) rfl
theorem aea{t:fj}{g c a:Int}(h:a<=c):sE ⟨t,g,c,4294967295⟩ a:=by
 by_cases G:32<=c-a
 .exact .inl G
 .exact .inr ⟨h,afw cU⟩
section
variable{n r:Nat}(cR:n<=4){x:eR}(h:qF n r x)
include h
theorem TE{m:Nat}:kq hI x.d8 m↔oR x m:=by
 constructor
 .rintro⟨Y,a⟩;exact⟨_,fi Y,a⟩
 .rintro⟨z,Y,a⟩;obtain⟨A,b,rfl⟩:=mf.1 Y;have G:=s7 h.r4 m A b;have d:=rW (f:=hI) x.d8 m;have aX:dn hI x.d8 m<=A:=by
   rcases la A (dn hI x.d8 m)with C|C
   .have:=G.2 C;omega
   .exact C
  rcases la (dn hI x.d8 m) A with C|C
  .have:=h.r4.jT C b;have g:=(s7 h.r4 m _ (dd:dn hI x.d8 m<F x.d8)).1 I;omega
  .have e:dn hI x.d8 m=A:=by omega
   exact⟨I,by simp only[e];exact a⟩
theorem aqj(o:j≠r)(hi:j<n){g:Bool}{c:Int}(l:iK c){z:E Int}(k:¬oR x j)(af:g=T)(Y:z=m8 2 x.it):yw n r x {x with d8:=x.d8.take (dn hI x.d8 j)++[(⟨fN j,1,c,4294967295⟩:e_)]++x.d8.drop (dn hI x.d8 j)} g j c z:=by
 have i:hI ⟨fN j,1,c,4294967295⟩=j:=rR j;have b:∀a,a∈x.d8.take (dn hI x.d8 j)++[(⟨fN j,1,c,4294967295⟩:e_)]++x.d8.drop (dn hI x.d8 j)↔a∈x.d8\/a=⟨fN j,1,c,4294967295⟩:=λa=>by
  rw[gq,gq,gO];constructor
  .rintro((C|C)|C)
   .exact .inl ef
   .exact .inr C
   .exact .inl ef
  .rintro(C|C)
   .rw[<-tn (dn hI x.d8 j) x.d8,gq]at C;rcases C with C|C
    .exact .inl cU
    .exact .inr C
   .exact .inl cU
 have aj:=h.r4.Gg (a:=⟨fN j,1,c,4294967295⟩) (by rw[i];exact λC=>k<|(TE h).1 C);rw[i]at aj;refine⟨⟨h.rP,h.jQ,h.res,h.t9,λa d=>?_,aj⟩,rfl,rfl,rfl,.inr ⟨k,af,Y,λa d=>⟨_,(b _).2 cU,i,aea d⟩⟩,⟨_,(b _).2 cU,i,aea dd⟩,λm a d=>?_,λm=>⟨λd=>?_,λd=>?_⟩⟩
 .rcases(b a).1 d with C|rfl
  .exact h.all a C
  .exact⟨⟨j,hi,o,rfl⟩,rfl,l,⟨(by decide:(0:Int)<=4294967295),(by decide:(4294967295:Int)<=4294967295)⟩,afw I⟩
 .have⟨C,aC,au,aL⟩:=d;exact⟨C,(b C).2<|.inl aC,au,aL⟩
 .have⟨C,aC,au⟩:=d;rcases(b C).1 aC with aC|rfl
  .exact .inl ⟨C,aC,au⟩
  .exact .inr<|au.symm.trans i
 .rcases d with⟨C,aC,au⟩|rfl
  .exact⟨C,(b C).2<|.inl aC,au⟩
  .exact⟨_,(b _).2<|.inr rfl,i⟩
theorem aqk{g:Bool}{c:Int}{z:E Int}(Y:dn hI x.d8 j<F x.d8)(i:hI x.d8[dn hI x.d8 j]=j){v:e_}(G:v.dU=x.d8[dn hI x.d8 j].dU)(q:v.hJ=x.d8[dn hI x.d8 j].hJ)(s:iK v.gV)(t:iK v.kT)(u:mv v.kT 0=T)(y:¬sE x.d8[dn hI x.d8 j] c)(D:sE v c)(K:∀a,sE x.d8[dn hI x.d8 j] a->sE v a):yw n r x {x with d8:=x.d8.set (dn hI x.d8 j) v} g j c z:=by
 have cK:=h.all _ (fi Y);have ab:hI v=j:=by unfold hI at i⊢;rw[G];exact i
 have p:∀A (b:A<F x.d8),hI x.d8[A]=j->A=dn hI x.d8 j:=λA b e=>by
  rcases Cr A (dn hI x.d8 j)with C|C|C
  .have:=h.r4.jT C Y;omega
  .exact C
  .have:=h.r4.jT C b;omega
 have o:∀a∈x.d8.set (dn hI x.d8 j) v,a∈x.d8\/a=v:=λa d=>xH d
 have k:v∈x.d8.set (dn hI x.d8 j) v:=by rw[mf];exact⟨dn hI x.d8 j,QB,dh⟩
 have l:∀a∈x.d8,hI a≠j->a∈x.d8.set (dn hI x.d8 j) v:=λa d aR=>by obtain⟨A,b,rfl⟩:=mf.1 d;rw[mf];refine⟨A,by simpa using b,?_⟩;rw[v9,dA];intro C;subst C;exact aR i
 refine⟨⟨h.rP,h.jQ,h.res,h.t9,λa d=>?_,h.r4.put Y<|ab.trans i.symm⟩,rfl,rfl,rfl,.inl ⟨⟨_,fi Y,i⟩,?_⟩,⟨v,k,ab,D⟩,λm a d=>?_,λm=>⟨λd=>?_,λd=>?_⟩⟩
 .rcases o a d with C|rfl
  .exact h.all a C
  .exact⟨by rw[G];exact cK.1,by rw[q];exact cK.2.1,s,t,u⟩
 .rintro⟨a,d,N,P⟩;obtain⟨A,b,rfl⟩:=mf.1 d;have:=p A b N;subst this;exact y P
 .have⟨C,aC,au,aL⟩:=d;by_cases aw:m=j
  .subst aw;obtain⟨A,b,rfl⟩:=mf.1 aC;have:=p A b au;subst this;exact⟨v,k,ab,K a aL⟩
  .exact⟨C,l C aC I,au,aL⟩
 .have⟨C,aC,au⟩:=d;rcases o C aC with aC|rfl
  .exact .inl ⟨C,aC,au⟩
  .exact .inr<|au.symm.trans ab
 .by_cases aw:m=j
  .exact⟨v,k,ab.trans aw.symm⟩
  .rcases d with⟨C,aC,au⟩|C
   .exact⟨C,l C aC I,au⟩
   .exact absurd C aw
include cR in
theorem ak_(hi:j<n)(al:j≠r){g:Bool}{C:Int}(ap:0<=C/\C<256){i:X Nat}(ai:nM i){c:Int}(D:iK c){z:E Int}(Y:F z<=95)(cK:fS z){l ag:E Int}(ar:K7 g C i j c z l ag):de (CP x (jg g C i j c z ag)) λv=>v.2=13\/v.2=11\/(v.2=0/\yw n r x v.1 g j c z):=by
 obtain⟨b,k,m,o,v,rfl,ax,_,_⟩:=ar;have aP:=h.len;have aE:=rW (f:=hI) x.d8 j;have ah:0<=c/\c<4294967296:=by unfold iK at D;omega
 have cN:dq (Il x<|jg g C i j c z [b,k,m,o]) 0=B (dn hI x.d8 j:Int):=by
  obtain⟨a,d,rfl⟩:de (dq (Il x (jg g C i j c z [b,k,m,o])) 0) λa=>a=(dn hI x.d8 j:Int):=by
   refine hk (λq=>∃A:Nat,q=(A:Int)/\A<=dn hI x.d8 j) (λq=>((F x.d8:Int)-q).toNat) (λq aj=>?_) ef;obtain⟨A,rfl,aD⟩:=aj;unfold Il;by_cases t:A<F x.d8
   .have aG:=h.all _ (fi t);rw[dO,dz t,c6,et t,cI,ZU (l:=j) (by have:=aG.lt;omega) I aG.kJ rfl aG.2.1 rfl,cI,e7 I];have S:=s7 h.r4 j A t;by_cases aa:A<dn hI x.d8 j
    .rw[dz (pd.2 (S.2 aa)),c6,dg];exact .inl ⟨_,rfl,⟨A+1,rfl,I⟩,I⟩
    .rw[dr (λa=>aa<|S.1<|pd.1 a),dm,dg];exact .inr ⟨_,rfl,I⟩
   .rw[dO,dr t,dm,dg];exact .inr ⟨_,rfl,I⟩
  exact d
 have ak:((ej 40 (f5 (cM (dn hI x.d8 j:Int)) x.d8)<|cQ.cL .c_ ([(e_.mk (fN j) 1 c 4294967295)]:E e_)).bind λy=>(g2 x.d8 (dn hI x.d8 j:Int) (F x.d8:Int)).bind λP=>(ej 40 (f5 (F y) y) P).bind λQ=>B (({x with d8:=Q}:eR),(0:Int)))=B ({x with d8:=x.d8.take (dn hI x.d8 j)++[(⟨fN j,1,c,4294967295⟩:e_)]++x.d8.drop (dn hI x.d8 j)},0):=by rw[i8 oe oe,cI,pr I I I,cI,iV,i8 oe oe];simp[cQ.cL]
 have ad:¬oR x j->de (bif (jg g C i j c z [b,k,m,o]).gi !=3 then B ((eR.mk ([]:E h9) 0 0 0 ([]:E e_)),(11:Int))else(xT 2 x.it).bind λaB=>(sm z aB).bind λaC=>bif aC then bif ((F x.d8:Int)==16)then M else bif decide ((0:Int)<=0/\0<=(dn hI x.d8 j:Int)/\(dn hI x.d8 j:Int)<=(F x.d8:Int))then(ej 40 (f5 (cM (dn hI x.d8 j:Int)) x.d8)<|cQ.cL .c_ ([(e_.mk (fN j) 1 c 4294967295)]:E e_)).bind λy=>(g2 x.d8 (dn hI x.d8 j:Int) (F x.d8:Int)).bind λP=>(ej 40 (f5 (F y) y) P).bind λQ=>B (({x with d8:=Q}:eR),(0:Int))else M else B ((eR.mk ([]:E h9) 0 0 0 ([]:E e_)),11)) λv=>v.2=13\/v.2=11\/(v.2=0/\yw n r x v.1 g j c z):=by
  intro u;refine ep.2 ⟨λ_=>dg.2<|.inr<|.inl rfl,λaf=>?_⟩;rw[amF h.t9,cI];unfold sm;rw[cI,ak,hl (dd:¬(F x.d8:Int)=16),dm,dz I,c6];refine ep.2 ⟨λs=>dg.2<|.inr<|.inr ⟨rfl,aqj h al hi D u ?_ ?_⟩,λ_=>dg.2<|.inr<|.inl rfl⟩
  .cases g
   .cases(show T=Z from af)
   .rfl
  .exact ae9 cK (λan N=>by
    rcases gq.1 N with N|N
    .rw[gO.1 N];omega
    .exact ko _ _ an N) (by simpa[cQ.cL]using s)
 unfold CP;rw[F4 cR h,FZ Y b k m o,(J:(jg g C i j c z [b,k,m,o]).hJ=1),SE h.rP,aaS ai I ah Y b k m o,cN,(Sk cR h).2];have aA:KA n2 (jt g C i j c z) (jg g C i j c z [b,k,m,o]).pH=B T:=by unfold KA;exact dS ax<|gt rfl (dS (RJ _) rfl)
 simp only[cI,c6];rw[aA,(J:(jg g C i j c z [b,k,m,o]).qH=T)];simp only[cI,c6];by_cases p:dn hI x.d8 j<F x.d8
 .have aG:=h.all _ (fi p);rw[dO,dz p,c6,et p,cI];by_cases s:hI x.d8[dn hI x.d8 j]=j
  .have K:x.d8[dn hI x.d8 j].dU=fN j:=by rw[aG.kJ,s]
   rw[K,(J:(jg g C i j c z [b,k,m,o]).dU=fN j),Fz,c6,cI,aG.2.1,(J:((1:Int)==1)=T),c6,cI];refine(aiY aG.2.2.1 aG.2.2.2.1 aG.2.2.2.2 D).bind λv ab=>?_
   have⟨v,e⟩:=v;rcases ab with ab|ab
   .simp only at ab;subst ab;exact dg.2<|.inl rfl
   .have⟨ae,am,ao,aq,au,av,aw,ay,az⟩:=ab;simp only at ae;subst ae;simp only[cQ.cL,gz,gx];rw[(J:((0:Int) !=0)=Z),dm,et p,cI,e6 p,cI,dg];exact .inr<|.inr ⟨rfl,aqk h p s am ao aq au av aw ay az⟩
  .have u:¬oR x j:=λC=>s ((TE h).2 C).2
   have K:fj.fV x.d8[dn hI x.d8 j].dU (jg g C i j c z [b,k,m,o]).dU=Z:=by rw[aG.kJ];show fj.fV (fN _) (fN j)=Z;unfold fj.fV fN;simp only[beq_self_eq_true,Vj,Cj];exact hl λC=>s<|vy C
   rw[K,dm];exact ad u
 .have u:¬oR x j:=λC=>p ((TE h).2 C).1
  rw[dO,dr p,dm];exact ad u
end
inductive gD
 |lU(C:Int)
 |ot(A:Int)(g:Nat)
 |fo(C A:Int)(m:Nat)
 |jp(C:Int)(m:Nat)(c:Int)
def gD.n:gD->d9
 |.lU C=>⟨1,C,0,0,wa,0⟩
 |.ot A g=>⟨2,0,A,fF g,wa,0⟩
 |.fo C A m=>⟨3,C,A,0,dst m,0⟩
 |.jp C m c=>⟨5,C,0,0,dst m,c⟩
def gD.ok(n:Nat):gD->Prop
 |.lU C=>g6 C
 |.ot A g=>(0<=A/\A<=65535)/\g<n
 |.fo C A m=>g6 C/\(0<=A/\A<=65535)/\m<n
 |.jp C m c=>g6 C/\m<n/\(1<=c/\c<=32)
def amY{n:Nat}{a:d9}(h:od n a):∃t:gD,t.ok n/\t.n=a:=by
 cases h with
 |lU C h=>exact⟨.lU C,h,rfl⟩
 |ot A g h af=>exact⟨.ot A g,⟨h,af⟩,rfl⟩
 |fo C A b h i ax=>exact⟨.fo C A<|fC b,⟨h,i,ax.lt⟩,by show(⟨3,C,A,0,dst<|fC b,0⟩:d9)=_;rw[<-ax.lS]⟩
 |jp C b c h ax d=>exact⟨.jp C (fC b) c,⟨h,ax.lt,d⟩,by show(⟨5,C,0,0,dst<|fC b,c⟩:d9)=_;rw[<-ax.lS]⟩
def amZ{n:Nat}{t:gD}(h:t.ok n):od n t.n:=by
 cases t with
 |lU C=>exact .lU C h
 |ot A g=>exact .ot A g h.1 h.2
 |fo C A m=>exact .fo C A _ h.1 h.2.1 ⟨m,h.2.2,rfl⟩
 |jp C m c=>exact .jp C _ c h.1 ⟨m,h.2.1,rfl⟩ h.2.2
def xe:X Nat->Int
 |none=>0
 |some m=>fF m
def qU:X Nat->E Int
 |none=>jX
 |some m=>fk m
def kH:X Nat->Nat
 |none=>0
 |some _=>15
def gD.next(ao:X Nat):gD->X Nat
 |.fo _ _ m=>B m
 |_=>ao
def iT(g:Int)(l:E Int):E Int:=[g,(F l:Int)]++l
def gD.body(ao:X Nat):gD->E Int
 |.lU C=>d4 C 2
 |.ot A g=>f4 g++d4 A 2
 |.fo C A m=>[(kH ao:Int),128,0]++d4 C 2++d4 A 2++(fk m).drop (kH ao)
 |.jp C m c=>[128,0]++d4 C 2++[c]++f4 m++fk m
def gD.enc(ao:X Nat)(t:gD):E Int:=match t with
 |.lU _=>iT 1<|t.body ao
 |.ot _ _=>iT 2<|t.body ao
 |.fo _ _ m=>iT 6 (f4 m)++iT 3 (t.body ao)
 |.jp _ _ _=>iT 5<|t.body ao
def gD.F1(ao:X Nat):gD->Prop
 |.fo _ _ m=>ao≠B m
 |_=>True
def R8(ao:X Nat)(t:gD):F (t.enc ao)<=40:=by cases t<;>cases ao<;>simp[gD.enc,gD.body,iT,gY,f4,fk,kH]
theorem hn{a:E Int}{r:Int}{i:E Int}{g:Int}{l:E Int}(d:F a<=50000)(b:F l<=255):wm ⟨a,r,i⟩ g l=B ⟨a++iT g l,r,i⟩:=by unfold wm;simp only[cQ.cL];rw[N9 I I,he _ _ I ef,cI,he _ _ I ef,cI];simp[iT]
def adP{m:Nat}(aw:m<4):wj (dst m).ed=B (fk m):=kB (z:=λm=>wj (dst m).ed=B (fk m)) J J J J aw
def adR{m:Nat}:wj (dst m).dU=B []:=J
theorem asK{a:E Int}{r:Int}{ao:X Nat}(b:nM ao){m:Nat}(aw:m<4)(aR:ao≠B m):dq (uL (fk m) ⟨a,r,qU ao⟩) 0=B (kH ao:Int):=by
 cases ao with
 |none=>exact kB (z:=λm=>dq (uL (fk m) ⟨a,r,jX⟩) 0=B 0) J J J J aw
 |some j=>
  have hi:=b j rfl;have d:j≠m:=λC=>aR cU
  have key:∀{j m:Nat},j<4->m<4->j=m\/dq (uL (fk m) ⟨a,r,fk j⟩) 0=B 15:=λ{j m} hi aw=>by
   refine wW (z:=λj m=>j=m\/dq (uL (fk m) ⟨a,r,fk j⟩) 0=B 15) (λj hi=>?_) hi aw;refine kB (z:=λj=>(j=0\/dq (uL (fk 0) ⟨a,r,fk j⟩) 0=B 15)/\(j=1\/dq (uL (fk 1) ⟨a,r,fk j⟩) 0=B 15)/\(j=2\/dq (uL (fk 2) ⟨a,r,fk j⟩) 0=B 15)/\(j=3\/dq (uL (fk 3) ⟨a,r,fk j⟩) 0=B 15)) ?_ ?_ ?_ ?_ hi
   .exact⟨.inl rfl,.inr J,.inr J,.inr J⟩
   .exact⟨.inr J,.inl rfl,.inr J,.inr J⟩
   .exact⟨.inr J,.inr J,.inl rfl,.inr J⟩
   .exact⟨.inr J,.inr J,.inr J,.inl rfl⟩
  exact(key hi aw).resolve_left d
def aqX{ao:X Nat}{m:Nat}(aR:ao≠B m):(fF m !=xe ao)=T:=by
 cases ao with
 |none=>exact bne_iff_ne.2<|y1 m
 |some j=>exact bne_iff_ne.2 λC=>aR<|congrArg B<|vy C.symm
def amX{n:Nat}(cR:n<=4){t:gD}(h:t.ok n){ao:X Nat}(i:nM ao)(j:t.F1 ao){b:E Int}(l:F b<=40000):z3 ⟨b,xe ao,qU ao⟩ t.n=B ⟨b++t.enc ao,xe (t.next ao),qU (t.next ao)⟩:=by
 unfold z3;cases t with
 |lU C=>refine gt rfl ?_;have ap:g6 C:=h;unfold g6 at ap;rw[show U cZ (gD.n (.lU C)).dx=C from ju ap.1 (by have:=ap.2;show C<_;omega)];refine dS (k1 [] C 2 I dh)<|dS (hn I of) rfl
 |ot A g=>have⟨d,af⟩:=h;refine gL rfl (gt rfl ?_);rw[show U cZ (gD.n (.ot A g)).ff=A from ju d.1 (by show A<_;omega)];refine dS (v:=f4 g) ((k1 [] (fF g) 8 I dh).trans (by rw[w3 I];rfl)) ?_;exact dS (k1 (f4 g) A 2 I (by simp[f4])) (dS (hn I u4) rfl)
 |fo C A m=>
  have⟨ap,d,aw⟩:=h;unfold g6 at ap;have a:m<4:=I;have aR:ao≠B m:=j;refine gL rfl (gL rfl (gt rfl ?_));refine dS ?_ rfl;unfold Pe;refine gt (aqX aR) ?_;refine dS (v:=f4 m) ((k1 [] (fF m) 8 I dh).trans (by rw[w3 a];rfl)) ?_;refine dS (hn I (by simp[f4])) ?_;refine dS (adP a) ?_;refine dS (asK i a aR) ?_;have af:kH ao<=15:=Xb;have aG:U cH (kH ao:Int)=(kH ao:Int):=N9 I I;rw[aG,show U cZ (gD.n (.fo C A m)).dx=C from ju ap.1 (by show C<_;omega),show U cZ (gD.n (.fo C A m)).ff=A from ju d.1 (by show A<_;omega)];refine dS (v:=[(kH ao:Int),128,0]++d4 C 2) (k1 [(kH ao:Int),128,0] C 2 I dh) ?_;refine dS (k1 _ A 2 I of) ?_;have K:F (fk m)=16:=rfl;refine dS (v:=(fk m).drop<|kH ao) ?_ ?_
  .rw[pr I (by rw[K];omega) I,K,gz];rw[(J:((16:Nat):Int).toNat=16),k9 (by rw[K];omega)]
  refine dS (he _ _ I Xc) ?_;refine dS adR ?_;refine dS (v:=[(kH ao:Int),128,0]++d4 C 2++d4 A 2++(fk m).drop (kH ao)) ((he _ _ I Xc).trans wH) ?_;refine dS (hn (by simp[iT,f4];omega) Xc) ?_;show B (kx.mk (b++iT 6 (f4 m)++iT 3 _) (fF m)<|fk m)=B (kx.mk (b++(iT 6 (f4 m)++iT 3 _)) (fF m)<|fk m);rw[iu];rfl
 |jp C m c=>have⟨ap,aw,k⟩:=h;unfold g6 at ap;have a:m<4:=I;refine gL rfl (gL rfl (gL rfl (gt rfl ?_)));rw[show U cZ (gD.n (.jp C m c)).dx=C from ju ap.1 (by show C<_;omega),show U cH (gD.n (.jp C m c)).e3=c from N9 (by show 0<=c;omega) (by show c<_;omega)];refine dS (v:=[128,0]++d4 C 2) (k1 [128,0] C 2 I dh) ?_;refine dS (he _ _ I (by simp[gY,cQ.cL])) ?_;refine dS (v:=[128,0]++d4 C 2++[c]++f4 m) ((k1 _ (fF m) 8 I (by simp[gY,cQ.cL])).trans (by rw[w3 a];rfl)) ?_;refine dS (adP a) ?_;refine dS (he _ _ I Xd) ?_;refine dS adR ?_;refine dS (v:=[128,0]++d4 C 2++[c]++f4 m++fk m) ((he _ _ I Xd).trans wH) ?_;exact dS (hn I Xd) rfl
def iL:X Nat->E gD->E Int
 |_,[]=>[]
 |ao,t::s=>t.enc ao++iL (t.next ao) s
def vu(ao:X Nat)(s:E gD):X Nat:=s.foldl (λc t=>t.next c) ao
def oq:X Nat->E gD->Prop
 |_,[]=>True
 |ao,t::s=>t.F1 ao/\oq (t.next ao) s
def Z_:∀(ao:X Nat) (s a:E gD),iL ao (s++a)=iL ao s++iL (vu ao s) a
 |_,[],_=>rfl
 |ao,t::s,a=>by show t.enc ao++iL (t.next ao) (s++a)=t.enc ao++iL (t.next ao) s++iL (vu (t.next ao) s) a;rw[Z_,iu]
def Se:∀(ao:X Nat) (s a:E gD),oq ao (s++a)↔oq ao s/\oq (vu ao s) a
 |_,[],_=>by simp[oq,vu]
 |ao,t::s,a=>by show t.F1 ao/\oq (t.next ao) (s++a)↔(t.F1 ao/\oq (t.next ao) s)/\oq (vu (t.next ao) s) a;rw[Se,and_assoc]
def Bq:∀(ao:X Nat) (s:E gD),F (iL ao s)<=40*F s
 |_,[]=>by simp[iL]
 |ao,t::s=>by have:=R8 ao t;have:=Bq (t.next ao) s;simp only[iL,g9,l6];omega
def abJ{n:Nat}(cR:n<=4){t:gD}(h:t.ok n){ao:X Nat}(a:nM ao):nM (t.next ao):=by
 cases t with
 |fo C A m=>intro j hi;cases hi;have:=h.2.2;omega
 |_=>exact a
theorem Z3{n:Nat}(cR:n<=4):∀{s:E gD},(∀t∈s,t.ok n)->∀{ao:X Nat},nM ao->nM (vu ao s)
 |[],_,_,a=>a
 |t::s,h,_,a=>Z3 cR (s:=s) cU<|abJ cR cU a
def s_(s:E gD):kx:=⟨iL M s,xe (vu M s),qU (vu M s)⟩
theorem aeO{n:Nat}(cR:n<=4){s:E gD}{t:gD}(h:∀l∈s++[t],l.ok n)(b:oq M (s++[t]))(cN:F s<=900):z3 (s_ s) t.n=B (s_ (s++[t])):=by
 have G:∀l∈s,l.ok n:=λl g=>h l cU
 have d:=Bq M s;have a:=(Se M s [t]).1 b;have:=amX cR cU (Z3 cR G λ_ C=>lL) a.2.1 (b:=iL M s) I;unfold s_;rw[this,Z_];simp[iL,vu]
theorem aeS(a l o:E Int)(A n:Nat)(b:F a=A)(cR:F l=n):g2 (a++l++o) (A:Int) ((A+n:Nat):Int)=B l:=by rw[pr I I ef,gz,gz];subst b;subst cR;rw[sc dh,k9 dh,zG]
theorem aqu{g:Int}{l b:E Int}{j:E d9}{r:Int}{i:E Int}{a:d9}(af:g≠6)(s:F l<=255)(ay:F b<=100000)(t:F j<=63)(d:wl g l ⟨[],r,i⟩=B (a,T)):uK (iT g l++b,j,r,i)=B (.inl (b,j++[a],r,bif a.gi==3 then a.c3.ed.en else i)):=by
 have aP:F (iT g l++b)=2+F l+F b:=by simp[iT];omega
 have u:di (iT g l++b) 0=B g:=rfl;have m:di (iT g l++b) 1=B (F l:Int):=rfl;have q:U W (F l:Int)=(F l:Int):=fx I I;have k:U W (2+(F l:Int))=((2+F l:Nat):Int):=by rw[fx I I];omega
 have o:g2 (iT g l++b) 2 ((2+F l:Nat):Int)=B l:=aeS [g,(F l:Int)] l b 2 (F l) rfl rfl;have p:g2 (iT g l++b) ((2+F l:Nat):Int) (F (iT g l++b):Int)=B b:=oz (iT g l) b (2+F l) cU;unfold uK IN;simp only;rw[u,m,dz dd,dr dd,fx (a:=(F (iT g l++b):Int)-2) I I];simp only[c6,dm,cI];rw[q,dr I,dr dd,k,o];simp only[dm,cI];rw[k,p,cI,hl af,dm,d,cI,c6];simp only[cQ.cL];rw[i8 ef ef];simp only[cI];cases a.gi==3<;>rfl
def aqv{m:Nat}(aw:m<4){a:E Int}{d:E d9}{r:Int}{i:E Int}(ay:F a<=100000)(l:F d<=63):uK (iT 6 (f4 m)++a,d,r,i)=B (.inl (a,d,fF m,i)):=by
 have b:F (f4 m)=8:=rfl;have aP:F (iT 6 (f4 m)++a)=10+F a:=by simp[iT,b];omega
 have u:di (iT 6 (f4 m)++a) 0=B 6:=rfl;have g:di (iT 6 (f4 m)++a) 1=B 8:=rfl;have j:g2 (iT 6 (f4 m)++a) 2 10=B (f4 m):=aeS [6,8] (f4 m) a 2 8 rfl rfl;have k:g2 (iT 6 (f4 m)++a) 10 (F (iT 6 (f4 m)++a):Int)=B a:=oz (iT 6<|f4 m) a 10 (by simp[iT,b]);have p:js (f4 m) 0 8=B (fF m,T):=by have:=td (f4 m) [] 8 rfl (t1 aw) I I (by simp[b]);rw[nb]at this;rwa[<-y0 aw]
 unfold uK;simp only;rw[u,g,dz (dd:(F (iT 6 (f4 m)++a):Int)>0),dr (dd:¬(F (iT 6 (f4 m)++a):Int)<2),fx (a:=(F (iT 6 (f4 m)++a):Int)-2) I I];simp only[c6,dm,cI];rw[show U W 8=8 by rfl,dr I,dr (dd:¬(F d:Int)>64),show U W (2+8)=10 by rfl,j];simp only[dm,cI,b];rw[show U W (2+((8:Nat):Int))=10 by rfl,k,cI,(J:((6:Int)==6)=T),c6,p];rfl
theorem rd{l:E Int}(cK:fS l){a A o:E Int}(h:l=a++A++o){j n:Nat}(hi:F a=j)(cR:F A=n)(G:1<=n)(b:n<=8)(cN:F l<=1000):oL (j:Int) (n:Int) l=B (kW A):=by unfold oL;subst hi;subst cR;rw[Uv cK I (F a) (F A) G b cU,cI,h,iu,zG,rg]
def hY{t l:E Int}(a:fS t)(b:fS l):fS (t++l):=λan N=>by
 rcases gq.1 N with h|h
 .exact a an h
 .exact b an h
def Gi{m:Nat}(aw:m<4):fS (fk m):=λan N=>by simp only[fk,l3,uo,or_false]at N;omega
def qm{a:Int}(h:0<=a/\a<=255):kW [a]=a:=by have:=lO a 1 h.1 (by have:=h.2;omega);rwa[(J:d4 a 1=[a/1%256]),(dd:a/1%256=a)]at this
def arb{n:Nat}(cR:n<=4){t:gD}(h:t.ok n){ao:X Nat}(p:nM ao)(x:t.F1 ao):∃g,g≠6/\wl g (t.body ao) ⟨[],xe (t.next ao),qU ao⟩=B (t.n,T)/\t.enc ao=(match t with|.fo _ _ m=>iT 6 (f4 m)|_=>[])++iT g (t.body ao):=by
 cases t with
 |lU C=>have ap:g6 C:=h;unfold g6 at ap;refine⟨1,h8,?_,rfl⟩;unfold wl;refine gt rfl (dS (rd (j:=0) (n:=2) (l:=d4 C 2) (ko _ _) (a:=[]) (o:=[]) (A:=d4 C 2) dh rfl (gY _ _) I I of) ?_);rw[lO C 2 ap.1 I,xy ap.1 ap.2];rfl
 |ot A g=>have⟨s,af⟩:=h;have o:g<4:=I;refine⟨2,h8,?_,rfl⟩;have cK:fS (f4 g++d4 A 2):=hY (t1 o)<|ko _ _;unfold wl;refine gL rfl (gt rfl (dS (rd (j:=0) (n:=8) (l:=f4 g++d4 A 2) cK (a:=[]) (o:=d4 A 2) (A:=f4 g) dh rfl rfl I I u4) ?_));refine dS (rd (j:=8) (n:=2) (l:=f4 g++d4 A 2) cK (a:=f4 g) (o:=[]) (A:=d4 A 2) dh rfl (gY _ _) I I u4) ?_;rw[lO A 2 I I,y0 o,fx I I];rfl
 |fo C A m=>
  have⟨ap,s,aw⟩:=h;unfold g6 at ap;have d:m<4:=I;refine⟨3,h8,?_,rfl⟩;have q:F (fk m)=16:=rfl;have af:kH ao<=15:=Xb;have cK:fS ([(kH ao:Int),128,0]++d4 C 2++d4 A 2++(fk m).drop (kH ao)):=by
   refine hY (hY (hY (λan N=>?_)<|ko _ _)<|ko _ _) λan N=>Gi d an<|uv N
   simp only[l3,uo,or_false]at N;omega
  have cN:F ([(kH ao:Int),128,0]++d4 C 2++d4 A 2++(fk m).drop (kH ao))<=1000:=by simp[gY,q];omega
  unfold wl;refine gL rfl (gL rfl (gt rfl ?_));refine dS (rd (j:=3) (n:=2) cK (a:=[(kH ao:Int),128,0]) (A:=d4 C 2) (o:=d4 A 2++(fk m).drop (kH ao)) dh rfl (gY _ _) I I cN) ?_;refine dS (rd (j:=5) (n:=2) cK (a:=[(kH ao:Int),128,0]++d4 C 2) (A:=d4 A 2) (o:=(fk m).drop<|kH ao) dh (show _=5 by simp[gY]) (gY _ _) I I cN) ?_;refine dS (rd (j:=1) (n:=1) cK (a:=[(kH ao:Int)]) (A:=[128]) (o:=[0]++d4 C 2++d4 A 2++(fk m).drop (kH ao)) dh rfl rfl I I cN) ?_;refine dS (rd (j:=2) (n:=1) cK (a:=[(kH ao:Int),128]) (A:=[0]) (o:=d4 C 2++d4 A 2++(fk m).drop (kH ao)) dh rfl rfl I I cN) ?_;refine dS (rd (j:=0) (n:=1) cK (a:=[]) (A:=[(kH ao:Int)]) (o:=[128,0]++d4 C 2++d4 A 2++(fk m).drop (kH ao)) dh rfl rfl I I cN) ?_;rw[lO C 2 ap.1 I,xy ap.1 ap.2,lO A 2 I I,fx (a:=A) I I,qm I,qm I,qm I];refine dS (v:=(gD.n<|.fo C A m,T)) ?_ rfl;have key:∀a b k l:Int,wk ⟨3,C,A,0,⟨⟨eP,0⟩,⟨eP,0⟩,fF m⟩,0⟩ 128 0 (kH ao:Int) (qU ao) ([(kH ao:Int),128,0]++[a,b]++[k,l]++(fk m).drop (kH ao)) 7=B (gD.n<|.fo C A m,T):=by
   intro a b k l;cases ao with
   |none=>exact kB (z:=λm=>wk ⟨3,C,A,0,⟨⟨eP,0⟩,⟨eP,0⟩,fF m⟩,0⟩ 128 0 0 jX ([0,128,0]++[a,b]++[k,l]++fk m) 7=B (gD.n<|.fo C A m,T)) J J J J d
   |some j=>have hi:=p j rfl;refine wW (z:=λj m=>wk ⟨3,C,A,0,⟨⟨eP,0⟩,⟨eP,0⟩,fF m⟩,0⟩ 128 0 15 (fk j) ([15,128,0]++[a,b]++[k,l]++[(m:Int)+1]) 7=B (gD.n<|.fo C A m,T)) (λj hi=>?_) hi d;exact⟨J,J,J,J⟩
  exact key _ _ _ _
 |jp C m c=>
  have⟨ap,aw,u⟩:=h;unfold g6 at ap;have d:m<4:=I;refine⟨5,h8,?_,rfl⟩;have cK:fS ([128,0]++d4 C 2++[c]++f4 m++fk m):=by refine hY (hY (hY (hY (sZ rfl)<|ko _ _) λan N=>?_)<|t1 d)<|Gi d;rw[gO.1 N];omega
  have cN:F ([128,0]++d4 C 2++[c]++f4 m++fk m)<=1000:=by simp[gY,f4,fk]
  unfold wl;refine gL rfl (gL rfl (gL rfl (gL rfl (gt rfl ?_))));refine dS (rd (j:=2) (n:=2) cK (a:=[128,0]) (A:=d4 C 2) (o:=[c]++f4 m++fk m) dh rfl (gY _ _) I I cN) ?_;refine dS (rd (j:=4) (n:=1) cK (a:=[128,0]++d4 C 2) (A:=[c]) (o:=f4 m++fk m) dh (show _=4 by simp[gY]) rfl I I cN) ?_;refine dS (rd (j:=5) (n:=8) cK (a:=[128,0]++d4 C 2++[c]) (A:=f4 m) (o:=fk m) dh (show _=5 by simp[gY]) rfl I I cN) ?_;refine dS (rd (j:=0) (n:=1) cK (a:=[]) (A:=[128]) (o:=[0]++d4 C 2++[c]++f4 m++fk m) dh rfl rfl I I cN) ?_;refine dS (rd (j:=1) (n:=1) cK (a:=[128]) (A:=[0]) (o:=d4 C 2++[c]++f4 m++fk m) dh rfl rfl I I cN) ?_;rw[lO C 2 ap.1 I,xy ap.1 ap.2,qm (a:=c) I,fx (a:=c) I I,qm I,qm I,y0 d];refine dS (v:=(gD.n<|.jp C m c,T)) ?_ rfl;have key:∀a b:Int,wk ⟨5,C,0,0,⟨⟨eP,0⟩,⟨eP,0⟩,fF m⟩,c⟩ 128 0 0 (qU ao) ([128,0]++[a,b]++[c]++f4 m++fk m) 13=B (gD.n<|.jp C m c,T):=by intro a b;generalize qU ao=i;exact kB (z:=λm=>wk ⟨5,C,0,0,⟨⟨eP,0⟩,⟨eP,0⟩,fF m⟩,c⟩ 128 0 0 i ([128,0]++[a,b]++[c]++f4 m++fk m) 13=B (gD.n<|.jp C m c,T)) J J J J d
  exact key _ _
theorem tc{l:E Int}(cK:fS l){a A o:E Int}(h:l=a++A++o){j n:Nat}(hi:F a=j)(cR:F A=n)(G:1<=n)(b:n<=8)(cN:F l<=1000000):js l (j:Int) (n:Int)=B (kW A,T):=by subst hi;subst cR;rw[Uv cK I (F a) (F A) G b cU,h,iu,zG,rg]
section
variable{n:Nat}(cR:n<=4)
include cR
theorem adG:∀(s:E gD) (ao:X Nat) (a:E d9),(∀t∈s,t.ok n)->nM ao->oq ao s->F a+F s<=64->dq uK (iL ao s,a,xe ao,qU ao)=B (a++s.map gD.n)
 |[],ao,a,_,_,_,_=>by rw[jY,nb];exact mr rfl
 |t::s,ao,a,h,l,o,cN=>by
  have j:=h t dh;have y:F s<=63:=agH;have p:F a<=63:=agH;have u:=adG s (t.next ao) (a++[t.n]) cU (abJ cR j l) o.2 ef;have⟨g,af,G,k⟩:=arb cR j l o.1;have x:=Bq (t.next ao) s;have q:F (t.body ao)<=255:=by have aG:=R8 ao t;rw[k]at aG;simp only[iT,g9,l6,kv]at aG;omega
  have Y:=λr i d=>aqu (g:=g) (l:=t.body ao) (b:=iL (t.next ao) s) (j:=a) (r:=r) (i:=i) (a:=t.n) af q I p d
  show dq uK (t.enc ao++iL (t.next ao) s,a,xe ao,qU ao)=_;rw[k];have b:dq uK (iT g (t.body ao)++iL (t.next ao) s,a,xe<|t.next ao,qU ao)=B (a++(t::s).map gD.n):=by
   rw[pX (Y _ _ G)];have e:(bif t.n.gi==3 then t.n.c3.ed.en else qU ao)=qU (t.next ao):=by cases t<;>rfl
   rw[e,u];simp
  cases t with
  |fo C A m=>
   have aw:m<4:=by have:=j.2.2;omega
   simp only[iu];rw[pX (aqv aw (by simp[iT];omega) p)];exact b
  |lU C=>exact b
  |ot A g=>exact b
  |jp C m c=>exact b
def p2(at_:Int)(s:E gD):E Int:=[42,1]++d4 at_ 5++d4 (F (iL M s)) 2++iL M s
omit cR in
theorem TG(at_:Int)(s:E gD):F (p2 at_ s)=9+F (iL M s):=by simp[p2,gY];omega
omit cR in
theorem adE{at_:Int}(ax:0<=at_/\at_<1099511627776){s:E gD}(cN:F s<=900):C8 (s_ s) at_=B (p2 at_ s):=by have:=Bq M s;unfold C8;rw[ju ax.1 I];refine dS (v:=[42,1]++d4 at_ 5) (k1 [42,1] at_ 5 I dh) ?_;rw[show U cZ (F (s_ s).kD:Int)=(F (iL M s):Int)from ju I (by show(F (iL M s):Int)<_;omega)];refine dS (k1 _ _ 2 I of) ?_;exact dS (he _ _ I (by show _+F (iL M s)<=_;simp[gY];omega)) rfl
theorem afi{s:E d9}(h:∀a∈s,od n a)(cN:F s<=1000):C5 s=B T:=by
 have:dq (IL s) 0=B ():=by
  refine nr (Q:=F s) (λg af=>?_) ?_
  .unfold IL;rw[dO,dz af,c6,et af,cI,abQ cR (h _ (fi af)),cI,c6,e7 I]
  .unfold IL;rw[dO,dr I,dm]
 unfold C5;rw[this];rfl
omit cR in
theorem Z1{at_:Int}(ax:0<=at_/\at_<1099511627776):C6 at_=B T:=by unfold C6;rw[dz dd,dz ax.2];rfl
omit cR in
def Up{s:E gD}(a:oq M s)(g:Nat):oq M (s.take g):=by rw[<-tn g s]at a;exact((Se M _ _).1 a).1
omit cR in
theorem abw{s:E gD}(h:∀t∈s,t.ok n):∀a∈s.map gD.n,od n a:=λa d=>by obtain⟨t,b,rfl⟩:=hT.1 d;exact amZ cU
theorem akB{at_:Int}(ax:0<=at_/\at_<1099511627776){s:E gD}(h:∀t∈s,t.ok n)(i:oq M s)(cN:F s<=64):IJ at_ (s.map gD.n)=B (p2 at_ s,0):=by
 have j:dq (C4<|s.map gD.n) (0,⟨[],0,eP⟩)=B (s_ s):=by
  have:=ow (i:=C4<|s.map gD.n) (λg=>((g:Int),s_<|s.take g)) (F s) (r:=s_ s) (λg af=>?_) ?_
  .exact this
  .have b:g<F (s.map gD.n):=by simpa using af
   unfold C4;rw[dO,dz b,c6,et b,cI,oG];have a:s.take (g+1)=s.take g++[s[g]]:=by rw[xI,e6 af];rfl
   rw[aeO cR (s:=s.take g) (t:=s[g]) (by rw[<-a];exact λl d=>h l<|tr d) (by rw[<-a];exact Up i _) fv,cI,e7 I,<-a]
  .unfold C4;rw[dO,dr dh,dm,iV]
 unfold IJ;rw[dr ef,afi cR (abw h) ef,Z1 ax,j];simp only[cI,c6,dm];rw[adE ax I];rfl
theorem akw{at_:Int}(ax:0<=at_/\at_<1099511627776){s:E gD}(h:∀t∈s,t.ok n)(a:oq M s)(cN:F s<=64)(cK:fS (p2 at_ s)):II (p2 at_ s)=B (at_,s.map gD.n,0):=by
 have i:=Bq M s;have j:=TG at_ s;unfold II;have d:js (p2 at_ s) 2 5=B (at_,T):=by have:=tc cK (a:=[42,1]) (A:=d4 at_ 5) (o:=d4 (F<|iL M s) 2++iL M s) (by simp[p2]) (j:=2) (n:=5) rfl (gY _ _) I I I;rwa[lO _ _ ax.1 QE]at this
 have g:js (p2 at_ s) 7 2=B ((F (iL M s):Int),T):=by have:=tc cK (a:=[42,1]++d4 at_ 5) (A:=d4 (F<|iL M s) 2) (o:=iL M s) (by simp[p2]) (j:=7) (n:=2) of (gY _ _) I I I;rwa[lO _ _ I I]at this
 have b:g2 (p2 at_ s) 9 (F (p2 at_ s):Int)=B (iL M s):=oz ([42,1]++d4 at_ 5++d4 (F<|iL M s) 2) (iL M s) 9 of;rw[dr dd,d,g,b];simp only[dm,cI];rw[fx (a:=(F (p2 at_ s):Int)-9) I I,fx (a:=(F (iL M s):Int)) I I,fx (a:=at_) I I,dr I,dm];have Y:IM (iL M s)=B (s.map gD.n,T):=by unfold IM;rw[show dq uK (iL M s,[],0,eP)=B (s.map gD.n)from adG cR s M [] h (λ_ C=>lL) a (by simpa using cN)];rfl
 rw[Y,cI,c6,akB cR ax h a cN,cI,(J:((0:Int) !=0)=Z),dm,RJ];rfl
end
def Rc(s:E gD):Prop:=s.Pairwise λt l=>t.n.gi=3->l.n.gi=3->fC t.n.c3≠fC l.n.c3
def aan:∀(s:E gD) (ao:X Nat),Rc s->(∀m,ao=B m->∀t∈s,t.n.gi=3->fC t.n.c3≠m)->oq ao s
 |[],_,_,_=>trivial
 |t::s,ao,h,b=>by
  have G:=v8.1 h;refine⟨?_,aan s _ G.2 λm aw l a af=>?_⟩
  .cases t with
   |fo C A m=>exact λg=>b m g (.fo C A m) dh rfl (vF m)
   |_=>trivial
  .cases t with
   |fo C A j=>have d:j=m:=mg aw;subst d;have:=G.1 l a rfl af;rw[show fC (gD.n (.fo C A j)).c3=j from vF j]at this;exact λC=>this C.symm
   |_=>exact b m aw l (by simp[a]) af
theorem aj2{n:Nat}(cR:n<=4){t:gD}(h:t.ok n){ao:X Nat}:fS (t.body ao):=by
 cases t with
 |lU C=>exact ko _ _
 |ot A g=>exact hY (t1 (by have:=h.2;omega)) (ko _ _)
 |fo C A m=>
  have af:kH ao<=15:=Xb;refine hY (hY (hY (λan N=>?_)<|ko _ _)<|ko _ _) λan N=>Gi (m:=m) (by have:=h.2.2;omega) an ef
  simp only[l3,uo,or_false]at N;omega
 |jp C m c=>
  have aw:m<4:=by have:=h.2.1;omega
  refine hY (hY (hY (hY (sZ rfl)<|ko _ _) λan N=>?_)<|t1 aw)<|Gi aw;have:=h.2.2;rw[gO.1 N];omega
def R7{g:Int}(af:0<=g/\g<=255){l:E Int}(a:fS l)(cN:F l<=255):fS (iT g l):=by refine hY (λan N=>?_) a;simp only[l3,uo,or_false]at N;omega
def akC{n:Nat}(cR:n<=4){t:gD}(h:t.ok n){ao:X Nat}:fS (t.enc ao):=by
 have a:=aj2 cR h (ao:=ao);have cN:F (t.body ao)<=255:=by have:=R8 ao t;cases t<;>simp only[gD.enc,iT,g9,l6,kv]at this<;>omega
 cases t with
 |fo C A m=>exact hY (R7 I (t1 (by have:=h.2.2;omega)) (by simp[f4])) (R7 I a cN)
 |_=>exact R7 I a cN
theorem aaa{n:Nat}(cR:n<=4):∀(s:E gD) (ao:X Nat),(∀t∈s,t.ok n)->fS (iL ao s)
 |[],_,_=>λan N=>ry
 |t::s,ao,h=>hY (akC cR cU) (aaa cR s _ λl a=>h l cU)
def adL{n:Nat}(cR:n<=4){at_:Int}{s:E gD}(h:∀t∈s,t.ok n):fS (p2 at_ s):=hY (hY (hY (sZ rfl)<|ko _ _)<|ko _ _) (aaa cR s _ h)
def AS(n:Nat)(at_:Int)(l:E Int):Prop:=∃s:E gD,l=p2 at_ s/\(∀t∈s,t.ok n)/\oq M s/\F s<=64/\F l<=95
theorem abR{n:Nat}:∀{s:E d9},(∀a∈s,od n a)->∃b:E gD,b.map gD.n=s/\∀t∈b,t.ok n
 |[],_=>cU
 |a::s,h=>by
  obtain⟨t,g,rfl⟩:=amY<|h a dh;obtain⟨b,rfl,aF⟩:=abR (s:=s) λo ad=>h o cU
  exact⟨t::b,rfl,λl d=>by
   rcases l3.1 d with rfl|d
   .exact g
   .exact aF l d⟩
theorem aqt{n:Nat}(cR:n<=4){at_:Int}(ax:0<=at_/\at_<1099511627776){i:E d9}(aW:∀a∈i,od n a)(K:vh i)(cN:F i<=100):de (IK at_ i 95) λv=>v.2=0/\(∀l∈v.1,AS n at_ l)/\F v.1<=F i:=by
 obtain⟨s,rfl,h⟩:=abR aW;have N:Rc s:=sf.1 K;have ad:F s<=100:=by simpa using cN
 unfold IK;rw[afi cR aW I,Z1 ax];simp only[cI,c6];rw[dr dd,dr dd,dm,dm];refine de.bind (u:=λy=>(∀l∈y,AS n at_ l)/\F y<=F s) (hk (λq=>∃g:Nat,g<=F s/\q.1=(s.drop g).map gD.n/\(∀l∈q.2,AS n at_ l)/\F q.2<=g) (λq=>F q.1) (λq aj=>?_) ⟨0,I,rfl,dh,dh⟩) λy cK=>dg.2 cU
 have⟨eM,y⟩:=q;have⟨g,af,e,j,A⟩:=aj;simp only at e j A;subst e;unfold V1;simp only;by_cases ay:g<F s
 .have ae:F (s.drop g)=F s-g:=by simp
  have hS:∀t∈s.drop g,t.ok n:=λt p=>h t<|uv p
  have P:Rc (s.drop g):=N.sublist<|atE _ _;have x:oq M (s.drop g):=aan _ _ P λ_ C=>lL
  have aa:=s.drop g;generalize D:s.drop g=R at*;rw[dz (show(F (R.map gD.n):Int)>0 by simp;omega),c6];refine de.bind (u:=λa=>∃c:Nat,a=((c:Int),s_<|R.take c)/\1<=c/\c<=F R/\c<=64/\9+F (iL M<|R.take c)<=95) (hk (λa=>∃c:Nat,a=((c:Int),s_<|R.take c)/\c<=F R/\c<=64/\9+F (iL M<|R.take c)<=95) (λa=>(100-a.1).toNat) (λa d=>?_) ⟨0,rfl,I,I,by simp[iL]⟩) λa d=>?_
  .obtain⟨c,rfl,k,m,o⟩:=d;unfold V2;simp only;have Q:(if(64:Int)<(F (R.map gD.n):Int)then 64 else(F (R.map gD.n):Int))=((min 64 (F R):Nat):Int):=by rw[fT];split<;>omega
   rw[Q,dO];by_cases aB:c<min 64 (F R)
   .have z:c<F R:=by omega
    have u:R.take (c+1)=R.take c++[R[c]]:=by rw[xI,e6 z];rfl
    rw[dz aB,c6,et (show c<F (R.map gD.n) by simpa using z),cI,oG,aeO cR (s:=R.take c) (t:=R[c]) (by rw[<-u];exact λl b=>hS l<|tr b) (by rw[<-u];exact Up x _) fv,cI,<-u];have ab:=Bq M<|R.take<|c+1;have aX:F (R.take<|c+1)<=65:=fv;rw[show U W (9+(F (s_ (R.take (c+1))).kD:Int))=((9+F (iL M (R.take (c+1))):Nat):Int) by show U W (9+(F (iL M<|R.take<|c+1):Int))=_;rw[fx I I];omega]
    refine ep.2 ⟨λC=>dg.2<|.inr ⟨_,rfl,c,rfl,?_,k,m,o⟩,λC=>dg.2<|.inl ⟨_,rfl,⟨c+1,by rw[e7 I],I,I,?_⟩,by simp only;rw[e7 I];omega⟩⟩
    .have S:((9+F (iL M<|R.take<|c+1):Nat):Int)>95:=by simpa using C
     rcases Nat.eq_zero_or_pos c with rfl|dI
     .have:F (iL M<|R.take<|0+1)<=40*1:=by have aD:F (R.take<|0+1)<=1:=fv;omega
      omega
     .exact dI
    .have S:¬((9+F (iL M<|R.take<|c+1):Nat):Int)>95:=by simpa using C
     omega
   .rw[dr aB,dm];exact dg.2<|.inr ⟨_,rfl,c,rfl,I,k,m,o⟩
  .obtain⟨c,rfl,d0,k,m,o⟩:=d;simp only;rw[adE ax fv,cI];simp only[cQ.cL];rw[i8 fv fv,cI,pr I fv I,cI,dg];refine .inl ⟨_,rfl,⟨g+c,I,?_,λl b=>?_,fv⟩,fv⟩
   .simp only[gz,iV];rw[<-up,<-D,ri]
   .rcases gq.1 b with b|b
    .exact j l b
    .rw[gO.1 b];exact⟨R.take c,rfl,λt p=>hS t<|tr p,Up x _,fv,by rw[TG];omega⟩
 .have:s.drop g=[]:=by simp;omega
  rw[this];simp only[jY,kv];rw[dr dh,dm];exact dg.2<|.inr ⟨_,rfl,j,I⟩
def Mc(a:E Int)(n:Nat)(h:F a=n):k5 (fe n (0:Int)) 0 (F (cQ.cL .c_ (fe n (0:Int)))) (cQ.cL .c_ a)=a:=by subst h;unfold k5;simp only[cQ.cL,ut,HQ,k8,gx,HK,iV];rw[Oh dh,nb]
def vM(n:Nat)(h:n<=100000):h4 1 (n:Int) (n:Int)=B n:=by unfold h4;rw[dE dd,gz]
structure mA where
 c:E Int
 eH:Nat
structure pA(i:mA):Prop where
 ok:fS i.c
 abu:1<=i.eH
 sV:i.eH<=14
 lo:88*(i.eH-1)<F i.c
 hi:F i.c<=88*(i.eH-1)+91
 aaV:i.eH=1\/F i.c<=88*(i.eH-1)+90
 ajY:∀g,g+1<i.eH->F i.c>88*g+91\/(1<=g/\F i.c>88*g+90)
def iI(i:mA)(g:Nat):Nat:=if g+1<i.eH then 88 else F i.c-88*g
def kY(i:mA)(g:Nat):E Int:=(i.c.drop (88*g)).take (iI i g)
def gB(i:mA)(tag:Int)(g:Nat):fq:=fq.mk (F i.c:Int) tag (88*(g:Int)) (kY i g)
section
variable{i:mA}(h:pA i)
include h
theorem pA.s8:F i.c<=1235:=by have:=h.sV;have:=h.hi;omega
theorem pA.at(g:Nat)(af:g<i.eH):88*g<F i.c:=by have:=h.lo;omega
theorem qs(g:Nat)(af:g<i.eH):1<=iI i g/\iI i g<=91/\(1<=g->iI i g<=90)/\88*g+iI i g<=F i.c:=by
 have G:=h.lo;have a:=h.hi;have b:=h.aaV;unfold iI;split
 .omega
 .have:g=i.eH-1:=by omega
  subst this;omega
theorem sQ(g:Nat)(af:g<i.eH):F (kY i g)=iI i g:=by have:=qs h g af;unfold kY;rw[hO,my];omega
def Z6(g:Nat):fS (kY i g):=λan N=>h.ok an (uv (tr N))
theorem Bu(tag:Int)(g:Nat)(af:g<i.eH):uI (gB i tag g)=B T:=by
 have aj:=h.s8;have d:=h.at g af;have cN:=qs h g af;have aB:=sQ h g af;unfold uI;refine gL (dr (dd:¬(F i.c:Int)<1))<|gL (dr (dd:¬(F i.c:Int)>2047)) ?_;refine gL (dr (dd:¬88*(g:Int)<0))<|gL (dr (dd:¬88*(g:Int)>=(F i.c:Int))) ?_;refine gL ?_<|gL ?_ ?_
 .show(hc (88*(g:Int)) 8 !=0)=Z;rw[Int.tmod_eq_emod_of_nonneg I,(dd:88*(g:Int)%8=0)];rfl
 .show((F (kY i g):Int)==0)=Z;exact hl Xe
 have b:U W ((gB i tag g).iY-(gB i tag g).iX)=(F i.c:Int)-88*(g:Int):=fx (dd: -9223372036854775808<=(F i.c:Int)-88*(g:Int)) (dd:(F i.c:Int)-88*(g:Int)<=_);rw[b];refine gL (dr (show¬(F (kY i g):Int)>(F i.c:Int)-88*(g:Int) by rw[aB];omega)) ?_;show(bif ((F (kY i g):Int)==(F i.c:Int)-88*(g:Int))then B T else B<|hc (F (kY i g):Int) 8==0)=B T;rw[aB];by_cases a:g+1<i.eH
 .have e:iI i g=88:=by unfold iI;rw[dE a]
  rw[e];cases(((88:Nat):Int)==(F i.c:Int)-88*(g:Int))<;>rfl
 .have e:iI i g=F i.c-88*g:=by unfold iI;rw[dA a]
  refine gt ?_ rfl;rw[e];have:((F i.c-88*g:Nat):Int)=(F i.c:Int)-88*(g:Int):=I;rw[this];simp
end
def amr:∀n:Nat,n<1300->f2 cZ (49152+(n:Int)) 2047=(n:Int)/\vC cZ (49152+(n:Int)) 2047=49152:=lK
def ams:∀n:Nat,n<1300->f2 cZ (57344+(n:Int)) 2047=(n:Int)/\vC cZ (57344+(n:Int)) 2047=57344:=lK
def mark(g:Nat):Int:=if g=0 then 49152 else 57344
def sY(g:Nat):E Int:=if g=0 then[]else[11*(g:Int)]
def m4(i:mA)(tag:Int)(g:Nat):E Int:=d4 (mark g+(F i.c:Int)) 2++(d4 tag 2++(sY g++kY i g))
section
variable{i:mA}(h:pA i)
include h
theorem aah(tag:Int)(g:Nat)(af:g<i.eH):F (m4 i tag g)<=95:=by have:=qs h g af;simp only[m4,g9,gY,sQ h g af,sY];split<;>simp<;>omega
theorem ak2{tag:Int}(d:0<=tag)(l:tag<=65535)(g:Nat)(af:g<i.eH):If (gB i tag g)=B (m4 i tag g,0):=by
 have aj:=h.s8;have cN:=qs h g af;have b:=sQ h g af;have j:=h.sV;unfold If;refine dS (Bu h tag g af)<|gt rfl ?_;have key:∀A:Int,A=mark g->CE (gB i tag g) A=B (m4 i tag g,0):=by
  rintro A rfl;have k:mark g=49152\/mark g=57344:=by unfold mark;split<;>simp
  unfold CE;have aG:U cZ (U W<|mark g+(gB i tag g).iY)=mark g+(F i.c:Int):=by show U cZ (U W<|mark g+(F i.c:Int))=_;rw[fx I I,ju I I]
  have aD:U cZ (gB i tag g).eA=tag:=ju d (dd:tag<_);rw[aG,aD];refine dS (k1 [] _ 2 I dh)<|dS (k1 _ _ 2 I of) ?_;by_cases a:g=0
  .subst a;refine gL (dr (dd:¬88*(((0:Nat)):Int)>0)) ?_;unfold CF;refine dS (he _ _ I (by show F (_:E Int)+F (kY i 0)<=_;rw[b];simp[gY];omega)) ?_;show B (([]++d4 _ 2++d4 _ 2)++kY i 0,(0:Int))=_;simp[m4,sY]
  .refine gt (dz (dd:88*(g:Int)>0)) ?_;have aQ:U cZ (hf W (gB i tag g).iX 8)=11*(g:Int):=by show U cZ (hf W (88*(g:Int)) 8)=_;unfold hf;rw[ux I,(dd:88*(g:Int)/8=11*(g:Int)),fx I I,ju I I]
   rw[aQ];refine dS (k1 _ _ 1 I of) ?_;unfold CF;refine dS (he _ _ I (by show F (_:E Int)+F (kY i g)<=_;rw[b];simp[gY];omega)) ?_;have aH:d4 (11*(g:Int)) 1=[11*(g:Int)]:=by simp only[d4,List.range_one,hx,jY];rw[show(11*(g:Int))/2^(8*(1-1-0))%256=11*(g:Int) by simp;omega]
   show B (([]++d4 _ 2++d4 _ 2++d4 (11*(g:Int)) 1)++kY i g,(0:Int))=_;rw[aH];simp[m4,sY,a]
 by_cases a:g=0
 .subst a;exact gL (dr (dd:¬88*(((0:Nat)):Int)>0))<|key _ rfl
 .exact gt (dz (dd:88*(g:Int)>0))<|key _ (by unfold mark;rw[dA a])
theorem ak1{tag:Int}(k:0<=tag)(x:tag<=65535)(g:Nat)(af:g<i.eH):Ie (m4 i tag g)=B (gB i tag g,0):=by
 have aj:=h.s8;have cN:=qs h g af;have aB:=sQ h g af;have t:=h.sV;have u:mark g=49152\/mark g=57344:=by unfold mark;split<;>simp
 have p:fS (m4 i tag g):=hY (ko _ _) (hY (ko _ _) (hY (by
  unfold sY;split
  .exact λan N=>ry
  .exact λan N=>agG) (Z6 h g)))
 have q:=aah h tag g af;have s:4<=F (m4 i tag g):=by simp only[m4,g9,gY];omega
 unfold Ie;refine gL ef ?_;refine dS (td (d4 (mark g+(F i.c:Int)) 2) _ 2 (gY _ _) (ko _ _) I I (by show F (m4 i tag g)<=_;omega)) ?_;refine dS (v:=(tag,T)) ?_ ?_
 .refine(Uv p I 2 2 I I I).trans ?_;have e:((m4 i tag g).drop 2).take 2=d4 tag 2:=by unfold m4;rw[List.drop_append_of_le_length EW,Oh EW,k8,sc EW,k9 EW]
  rw[e,lO _ _ k I]
 refine dS (v:=sY g++kY i g) ?_ ?_
 .have e:m4 i tag g=(d4 (mark g+(F i.c:Int)) 2++d4 tag 2)++(sY g++kY i g):=by simp[m4]
  rw[e];exact oz _ _ 4 of
 have m:kW (d4 (mark g+(F i.c:Int)) 2)=mark g+(F i.c:Int):=lO _ _ I I;have key:∀A:Int,f2 cZ (mark g+(F i.c:Int)) 2047=(F i.c:Int)->CD (mark g+(F i.c:Int),T) (tag,T) (kY i g,88*(g:Int))=B (gB i tag g,0):=by intro _ b;unfold CD;simp only;rw[b,fx I I,xy k I];refine dS (Bu h tag g af)<|gt rfl (dS (vM _ Xe) ?_);exact congrArg (λa=>B (fq.mk (F i.c:Int) tag (88*(g:Int)) a,(0:Int)))<|Mc (kY i g) _ rfl
 rw[m];by_cases d:g=0
 .subst d;have j:mark 0=49152:=rfl;rw[j]at key⊢;have b:=amr (F i.c) I;simp only;rw[b.2];exact gt rfl (key 0 b.1)
 .have j:mark g=57344:=by unfold mark;rw[dA d]
  have o:sY g=[11*(g:Int)]:=by unfold sY;rw[dA d]
  have b:=ams (F i.c) I;rw[j]at key⊢;simp only;rw[b.2,o];refine gL rfl (gt rfl (gL (hl fv) ?_));refine dS (v:=11*(g:Int)) rfl (gL (hl I)<|dS (v:=11*(g:Int)) rfl ?_);refine dS (oz [11*(g:Int)] (kY i g) 1 rfl) ?_;have l:U W (U W (11*(g:Int))*8)=88*(g:Int):=by rw[fx (dd: -9223372036854775808<=11*(g:Int)) I,fx I I];omega
  rw[l];exact key 0 b.1
end
def akr(a:E Int)(n:Nat)(h:n<=F a):k5 (fe n (0:Int)) 0 (F (cQ.cL .c_ (fe n (0:Int)))) (cQ.cL .c_ a)=a.take n:=by unfold k5;simp only[cQ.cL,ut,HQ,k8,gx];rw[Nat.min_eq_right h,Oh dh,nb]
def m7(c:E Int):mA:=⟨c,if F c<=91 then 1 else(F c-3)/88+1⟩
def amz{c:E Int}(a:fS c)(G:1<=F c)(b:F c<=1200):pA (m7 c):=by
 unfold m7;constructor<;>dsimp only
 .exact a
 .split<;>omega
 .split<;>omega
 .split<;>omega
 .split<;>omega
 .split<;>omega
 .intro g;split<;>omega
section
variable{i:mA}(h:pA i)
include h
theorem ar2(tag:Int):dq (CI i.c tag 95) ([],91,0)=B ((jG i.eH).map (gB i tag)):=by
 have aj:=h.s8;have p:=h.sV;have q:=h.abu;have d:∀g,g<i.eH->88*g<F i.c:=h.at;have cN:=ow (i:=CI i.c tag 95) (a:=λg=>((jG g).map<|gB i tag,(if g=0 then(91:Int)else 90),(if g<i.eH then 88*(g:Int)else(F i.c:Int)))) i.eH (r:=(jG i.eH).map<|gB i tag) (λg af=>by
  have l:=d g af;have cN:=qs h g af;unfold CI;dsimp only;rw[dE af,fx (dd: -9223372036854775808<=(F i.c:Int)-88*(g:Int)) I];refine gt (dz (dd:88*(g:Int)<(F i.c:Int))) ?_;have key:∀v:Int,v=(iI i g:Int)->CH i.c ((jG g).map<|gB i tag,(if g=0 then(91:Int)else 90),88*(g:Int)) tag 95 v=B (dV ((jG<|g+1).map<|gB i tag,(if g+1=0 then(91:Int)else 90),(if g+1<i.eH then 88*(((g+1:Nat)):Int)else(F i.c:Int)))):=by
   rintro v rfl;unfold CH;dsimp only;refine dS (vM _ I) ?_;refine dS (pr I I I) ?_;rw[gz,iV,(dd:(88*(g:Int)).toNat=88*g),akr _ _ agI];refine dS (he _ _ I oe) ?_;have aG:U W (95-5)=90:=fx I I;have aD:U W (88*(g:Int)+(iI i g:Int))=if g+1<i.eH then 88*(((g+1:Nat)):Int)else(F i.c:Int):=by rw[fx I I];unfold iI;split<;>omega
   rw[aG,aD,dA (dd:¬g+1=0),List.range_succ,hN];rfl
  by_cases a:g+1<i.eH
  .have m:=h.ajY g a;have e:iI i g=88:=by unfold iI;rw[dE a]
   by_cases b:g=0
   .subst b;rw[dE rfl]at key⊢;refine gt (dz I)<|key _ ?_;rw[e];kernel_rfl
   .rw[dA b]at key⊢;refine gt (dz I)<|key _ ?_;rw[e];kernel_rfl
  .have e:iI i g=F i.c-88*g:=by unfold iI;rw[dA a]
   have j:=h.hi;have k:=h.aaV;have o:g=i.eH-1:=I;refine gL (dr ?_)<|key _ (by rw[e];omega);split<;>omega) (by
  unfold CI;dsimp only;rw[dA (Nat.lt_irrefl _),dr (dd:¬(F i.c:Int)<(F i.c:Int))];rfl)
 have av:((jG 0).map<|gB i tag,(if(0:Nat)=0 then(91:Int)else 90),(if 0<i.eH then 88*(((0:Nat)):Int)else(F i.c:Int)))=(([]:E fq),(91:Int),(0:Int)):=by rw[dE rfl,dE I];rfl
 rwa[av]at cN
theorem ar3(tag:Int):CG i.c tag 95=B ((jG i.eH).map (gB i tag),0):=by have aj:=h.s8;have dI:=h.at 0 h.abu;unfold CG;refine gL ef<|gL ef<|gL rfl ?_;rw[show U W (95-4)=91 from fx I I];exact dS (ar2 h tag) rfl
end
def ki(i:mA)(K:E Nat):Nat:=(K.map (iI i)).sum
def aeE(i:mA)(K:E Nat)(g:Nat):ki i (K++[g])=ki i K+iI i g:=by simp[ki]
structure sr(i:mA)(K:E Nat):Prop where
 Bf:K.Pairwise (·<·)
 lt:∀g∈K,g<i.eH
section
variable{i:mA}(h:pA i)
include h
theorem aeF:∀{K:E Nat},sr i K->∀g∈K.head?,ki i K+88*g<=F i.c
 |[],_,_,C=>lL
 |[t],b,g,C=>by cases C;have:=(qs h t<|b.lt t dh).2.2.2;simp[ki];omega
 |t::l::K,b,g,C=>by
  cases C;have G:=v8.1 b.Bf;have j:=aeF (K:=l::K) ⟨G.2,λa d=>b.lt a cU⟩ l rfl;have k:=G.1 l dh;have m:iI i t=88:=by unfold iI;rw[dE (by have:=b.lt l dh;omega)]
  simp only[ki,hx,List.sum_cons]at j⊢;omega
omit h in
theorem Mf{g a:Nat}(af:g<a)(b:a<i.eH):88*g+iI i g<=88*a:=by
 have:iI i g=88:=by unfold iI;rw[dE I]
 omega
omit h in
def sr.len{K:E Nat}(b:sr i K):F K<=i.eH:=by have:=(show iy (λa:Nat=>a) K from b.Bf).len (n:=i.eH) b.lt;exact this
theorem alX{tag:Int}{g:Nat}(af:g<i.eH){ab:E Bool}(cN:F ab=F i.c)(x:∀a (d:a<F ab),88*g<=a->ab[a]=Z):de (dq (O2 (gB i tag g)) (0,ab)) λr=>F r=F i.c/\∀a (d:a<F r),88*g+iI i g<=a->r[a]=Z:=by
 have aj:=h.s8;have t:=sQ h g af;have⟨aG,aD,_,aQ⟩:=qs h g af;refine hk (λq=>∃b:Nat,q.1=(b:Int)/\b<=iI i g/\F q.2=F i.c/\∀a (d:a<F q.2),88*g+b<=a->q.2[a]=Z) (λq=>((iI i g:Int)-q.1).toNat) (λq aj=>?_) ef;have⟨y,ab⟩:=q;have⟨b,m,ax,k,j⟩:=aj;simp only at m k j;subst m;unfold O2;simp only[cQ.cL];have o:F (gB i tag g).gA=iI i g:=t;have p:(gB i tag g).iX=88*(g:Int):=rfl;rw[o,p,dO];by_cases aq:b<iI i g
 .have s:U W (88*(g:Int)+(b:Int))=((88*g+b:Nat):Int):=by rw[fx I I];omega
  have l:88*g+b<F ab:=I;rw[dz aq,c6,s,et l,cI,gz,gx,e6 l,cI,j _ l I,dm,cI,cI,dg,e7 I];refine .inl ⟨_,rfl,⟨b+1,rfl,I,by simpa using k,λa d u=>?_⟩,ew⟩;simp only[sb]at d;rw[v9,dA I];exact j a d I
 .rw[dr aq,dm];exact dg.2 (.inr ⟨_,rfl,k,λa d u=>j a d I⟩)
theorem alZ{tag:Int}{K:E Nat}(j:sr i K)(dI:K≠[]):de (Ig (K.map (gB i tag))) λv=>(v.2=T/\v.1=i.c/\ki i K=F i.c)\/(v.2=Z/\ki i K<F i.c):=by
 have aj:=h.s8;have au:=j.len;have aC:=h.sV;have al:0<F K:=List.length_pos_iff.2 dI;have am:0<F (K.map<|gB i tag):=by simpa using al
 have ah:=Bu h tag K[0]<|j.lt _ cU;unfold Ig;have u:di (K.map<|gB i tag) 0=B (gB i tag K[0]):=by have:=et am;rwa[oG]at this
 rw[hl dd,u];simp only[dm,cI];rw[ah,cI,c6,(J:(gB i tag K[0]).iY=(F i.c:Int)),vM _ I,cI,cI];refine de.bind (u:=λl=>(l.1=(ki i K:Int)/\ki i K<=F i.c/\(ki i K=F i.c->l.2=i.c))) (hk (λq=>∃m e:Nat,q.2.1=(m:Int)/\m<=F K/\q.1=(ki i (K.take m):Int)/\ki i (K.take m)<=e/\e<=F i.c/\(∀C (ap:C<F K),m<=C->e<=88*K[C])/\F q.2.2.1=F i.c/\(ki i (K.take m)=e->q.2.2.1.take e=i.c.take e)/\F q.2.2.2=F i.c/\∀a (d:a<F q.2.2.2),e<=a->q.2.2.2[a]=Z) (λq=>((F K:Int)-q.2.1).toNat) (λq aj=>?_) ⟨0,0,rfl,I,rfl,by simp[ki],I,λC ap _=>I,dh,dh,dh,dh⟩) λl ae=>?_
 .have⟨ar,aF,l,ab⟩:=q;have⟨m,e,z,aw,p,N,aq,P,g,k,t,x⟩:=aj;simp only at z p g k t x;subst z;subst p;unfold VW;simp only;rw[dO,fT];by_cases b:m<F K
  .have o:=j.lt _ (fi b);have aB:=sQ h K[m] o;have⟨aG,aD,_,aQ⟩:=qs h K[m] o;have ax:=P m b<|jq _;have ai:di (K.map<|gB i tag) (m:Int)=B (gB i tag K[m]):=by have:=et (show m<F (K.map<|gB i tag) by simpa using b);rwa[oG]at this
   rw[dz b,c6,ai,cI,Bu h tag _ o,cI,c6,(J:(gB i tag K[m]).iY=(F i.c:Int)),(J:(gB i tag K[0]).iY=(F i.c:Int)),(J:(gB i tag K[m]).eA=tag),(J:(gB i tag K[0]).eA=tag)];simp only[bne_self_eq_false,dm];refine(alX h (tag:=tag) o t λa d aE=>x a d I).bind λr ay=>?_
   rw[(J:(gB i tag K[m]).iX=88*(K[m]:Int)),dz I,c6,dg];have ad:(88*(K[m]:Int)).toNat=88*K[m]:=I;rw[ad,e7 I];simp only[cQ.cL];have S:(gB i tag K[m]).gA=kY i K[m]:=rfl;rw[S,g];have aa:F ((l.drop<|88*K[m]).take<|(F i.c:Int).toNat-88*K[m])=F i.c-88*K[m]:=by rw[hO,my,g];omega
   rw[aa,aB];have y:min (iI i K[m]) (F i.c-88*K[m])=iI i K[m]:=I;have Q:k5 l (88*K[m]) (F i.c-88*K[m]) (kY i K[m])=l.take (88*K[m])++kY i K[m]++l.drop (88*K[m]+iI i K[m]):=by unfold k5;rw[aB,y,k9 (l:=kY i K[m]) Xe]
   rw[y,Q];have an:ki i (K.take<|m+1)=ki i (K.take m)+iI i K[m]:=by rw[xI,e6 b];exact aeE i _ _
   refine .inl ⟨_,rfl,⟨m+1,88*K[m]+iI i K[m],rfl,I,?_,I,I,λC ap az=>?_,?_,λav=>?_,ay.1,ay.2⟩,ew⟩
   .rw[an,fx I I];omega
   .exact Mf (px.1 j.Bf m C b ap I)<|j.lt _ (fi ap)
   .simp only[g9,hO,my,aB,g];omega
   .have af:ki i (K.take m)=e:=by omega
    have ag:e=88*K[m]:=I;have s:=k af;rw[ag]at s;have aA:F (l.take (88*K[m])++kY i K[m])=88*K[m]+iI i K[m]:=by rw[g9,hO,aB,g];omega
    simp only;rw[sc I,k9 I,s];unfold kY;rw[<-List.take_add]
  .rw[dr b,dm];have ak:m=F K:=I;subst ak;rw[iV]at N k⊢;refine dg.2 (.inr ⟨_,rfl,rfl,I,λC=>?_⟩);have:=k I;simp only;rwa[k9 I,k9 I]at this
 .have⟨A,ao,D⟩:=ae;rw[A];refine ep.2 ⟨λC=>dg.2<|.inr ⟨rfl,?_⟩,λC=>dg.2<|.inl ⟨rfl,?_⟩⟩
  .have:(ki i K:Int)≠(F i.c:Int):=by simpa using C
   omega
  .have:(ki i K:Int)=(F i.c:Int):=by simpa using C
   exact⟨D I,I⟩
end
structure gr where
 s:Nat
 tag:Int
 d:mA
 K:E Nat
 u:Int
def gr.b(r:Nat)(a:gr):eG:=⟨fN a.s,fN r,a.tag,(F a.d.c:Int),a.K.map (gB a.d a.tag),a.u⟩
structure VS(a:gr):Prop where
 d:pA a.d
 K:sr a.d a.K
 ox:a.K≠[]
 aly:ki a.d a.K<F a.d.c
 u:fy a.u
def lW(a o:gr):Prop:=a.s=o.s/\a.tag=o.tag/\F a.d.c=F o.d.c
instance(a o:gr):Decidable (lW a o):=by unfold lW;infer_instance
structure tv(L:E gr):Prop where
 all:∀a∈L,VS a
 ox:L.Pairwise λa o=>¬lW a o
 len:F L<=4
def R9{t l:Nat}:fj.fV (fN t) (fN l)=decide (t=l):=by
 by_cases h:t=l
 .subst h;rw[Fz];simp
 .rw[dr h];unfold fj.fV fN;simp only[beq_self_eq_true,Vj,Cj];exact hl λC=>h<|vy C
def amu{r:Nat}{a:gr}{q:Nat}{tag b:Int}:x2 (a.b r) (fN q) (fN r) tag b=B (decide (a.s=q)&&(a.tag==tag&&((F a.d.c:Int)==b))):=by unfold x2;rw[(J:(a.b r).dU=fN a.s),(J:(a.b r).ed=fN r),R9,Fz,(J:(a.b r).eA=a.tag),(J:(a.b r).iY=(F a.d.c:Int))];cases decide (a.s=q)<;>cases(a.tag==tag)<;>rfl
def abz{r:Nat}{a o:gr}:x2 (a.b r) (o.b r).dU (o.b r).ed (o.b r).eA (o.b r).iY=B (decide (lW a o)):=by rw[(J:(o.b r).dU=fN o.s),(J:(o.b r).ed=fN r),amu];congr 1;unfold lW;rw[(J:(o.b r).eA=o.tag),(J:(o.b r).iY=(F o.d.c:Int))];by_cases G:a.s=o.s<;>by_cases b:a.tag=o.tag<;>by_cases d:F a.d.c=F o.d.c<;>simp[G,b,d]<;>omega
def ad9{a:Int}(h:fy a):DR a=B T:=by unfold DR;rw[dz (show a>=0 from h.1),dz h.2];rfl
def NA(j:Nat):Ap (fN j)=B T:=rfl
theorem ajX{r:Nat}{a:gr}(h:VS a):JJ (a.b r)=B T:=by
 have aj:=h.d.s8;have t:=h.K.len;have y:=h.d.sV;have aR:F a.K≠0:=λC=>h.ox cU
 have cN:dq (JK<|a.b r) (0,0,0)=B (ki a.d a.K:Int):=by
  obtain⟨v,ab,rfl⟩:de (dq (JK (a.b r)) (0,0,0)) λv=>v=(ki a.d a.K:Int):=by
   refine hk (λq=>∃m e:Nat,q=((ki a.d (a.K.take m):Int),(e:Int),(m:Int))/\m<=F a.K/\ki a.d (a.K.take m)<=e/\e<=F a.d.c/\∀C (ap:C<F a.K),m<=C->e<=88*a.K[C]) (λq=>((F a.K:Int)-q.2.2).toNat) (λq aj=>?_) ⟨0,0,rfl,I,by simp[ki],I,λC ap _=>I⟩;obtain⟨m,e,rfl,o,p,s,g⟩:=aj;unfold JK;simp only[cQ.cL];rw[(J:(a.b r).j5=a.K.map (gB a.d a.tag)),fT,dO];by_cases b:m<F a.K
   .have d:=h.K.lt _ (fi b);have i:=sQ h.d a.K[m] d;have⟨aG,aD,_,aQ⟩:=qs h.d a.K[m] d;have u:=g m b<|jq _;have j:di (a.K.map<|gB a.d a.tag) (m:Int)=B (gB a.d a.tag a.K[m]):=by have:=et (show m<F (a.K.map<|gB a.d a.tag) by simpa using b);rwa[oG]at this
    have l:ki a.d (a.K.take<|m+1)=ki a.d (a.K.take m)+iI a.d a.K[m]:=by rw[xI,e6 b];exact aeE a.d _ _
    unfold An;rw[dz b,c6,j,cI,Bu h.d a.tag _ d,cI,c6,(J:(gB a.d a.tag a.K[m]).iY=(F a.d.c:Int)),(J:(a.b r).iY=(F a.d.c:Int)),(J:(gB a.d a.tag a.K[m]).eA=a.tag),(J:(a.b r).eA=a.tag),(J:(gB a.d a.tag a.K[m]).iX=88*(a.K[m]:Int)),(J:(gB a.d a.tag a.K[m]).gA=kY a.d a.K[m]),i];simp only[bne_self_eq_false,dm,cI];rw[dr I,dm,dg,fx (a:=(ki a.d (a.K.take m):Int)+(iI a.d a.K[m]:Int)) I I,fx (a:=88*(a.K[m]:Int)+(iI a.d a.K[m]:Int)) I I,e7 I];refine .inl ⟨_,rfl,⟨m+1,88*a.K[m]+iI a.d a.K[m],?_,I,I,I,λC ap x=>?_⟩,ew⟩
    .rw[l];simp
    .exact Mf (px.1 h.K.Bf m C b ap I)<|h.K.lt _ (fi ap)
   .rw[dr b,dm];have k:m=F a.K:=I;subst k;rw[iV]at*;exact dg.2<|.inr ⟨_,rfl,rfl⟩
  exact ab
 unfold JJ;rw[(J:(a.b r).dU=fN a.s),(J:(a.b r).ed=fN r),NA,NA,(J:(a.b r).ge=a.u),ad9 h.u,cN,(J:(a.b r).j5=a.K.map (gB a.d a.tag)),fT,hl dd];simp only[cI,c6,dm];exact congrArg B<|dz (show(ki a.d a.K:Int)<(F a.d.c:Int) by have:=h.aly;omega)
theorem RH{r:Nat}{L:E gr}(h:tv L):Al (L.map (gr.b r))=B T:=by
 have aP:=h.len;have:dq (JG<|L.map<|gr.b r) 0=B ():=by
  refine nr (Q:=F L) (λg af=>?_) ?_
  .have b:g<F (L.map<|gr.b r):=by simpa using af
   unfold JG;rw[dO,dz b,c6,et b,cI,oG,ajX (h.all _ (fi af)),cI,c6,pr I I I,cI];have d:dq (JH (((L.map<|gr.b r).take (g:Int).toNat).drop (0:Int).toNat)<|L[g].b r) 0=B (.inl ()):=by
    rw[(J:((0:Int)).toNat=0),List.drop_zero,gz];refine nr (Q:=g) (λm aw=>?_) ?_
    .have a:m<F ((L.map<|gr.b r).take g):=by simp;omega
     unfold JH;rw[dO,dz a,c6,et a,cI,uw,oG,abz,cI,dr (px.1 h.ox m g I af aw),dm,e7 I]
    .unfold JH;rw[dO,dr fv,dm]
   rw[d,cI];show DP _ _=_;unfold DP;rw[(J:(decide ((-1:Int)>=0))=Z),dm,e7 I]
  .unfold JG;rw[dO,dr dh,dm]
 unfold Al;rw[dr ef,this];rfl
def na{ag:Type}{s:E ag}{g:Nat}(h:g<F s):s.take (g+1)=s.take g++[s[g]]:=by rw[xI,e6 h];rfl
def RS{i:mA}(h:pA i){tag:Int}{g:Nat}(af:g<i.eH):Am (gB i tag g)=B (gB i tag g):=by have aj:=h.s8;have a:=sQ h g af;have:=qs h g af;unfold Am;rw[(J:(gB i tag g).gA=kY i g),a,vM _ I,cI,Mc _ _ a];rfl
def amA(n:Nat)(h:n<=100000):h4 48 (n:Int) (n:Int)=B n:=by unfold h4;rw[dE dd,gz]
def aae{r:Nat}{L:E gr}(h:tv L){K:Int}(ax:fy K):DM (L.map (gr.b r)) K=B ((L.filter λa=>decide (K<a.u)).map (gr.b r),0):=by
 have aP:=h.len;have cN:dq (DN (L.map<|gr.b r) K) (0,[])=B ((L.filter λa=>decide (K<a.u)).map<|gr.b r):=by
  have:=ow (i:=DN (L.map<|gr.b r) K) (λg=>((g:Int),((L.take g).filter λa=>decide (K<a.u)).map<|gr.b r)) (F L) (r:=(L.filter λa=>decide (K<a.u)).map<|gr.b r) (λg af=>?_) ?_
  .exact this
  .have d:=h.all _ (fi af);have j:g<F (L.map<|gr.b r):=Xf;have q:F ((L.take g).filter λa=>decide (K<a.u))<=4:=mY (xJ _ _) fv;have aj:=d.d.s8;have p:=d.K.len;have s:=d.d.sV;unfold DN JF;simp only;rw[dO,dz j,c6,et j,cI,oG,(J:(L[g].b r).ge=L[g].u),(J:(L[g].b r).j5=L[g].K.map (gB L[g].d L[g].tag)),fT,na af,e7 I];have o:dq (DO<|L[g].b r) (0,fe (F L[g].K) ⟨0,0,0,[]⟩)=B (L[g].K.map<|gB L[g].d L[g].tag):=by
    have:=ow (i:=DO<|L[g].b r) (λm=>((m:Int),(L[g].K.take m).map (gB L[g].d L[g].tag)++fe (F L[g].K-m) ⟨0,0,0,[]⟩)) (F L[g].K) (r:=L[g].K.map<|gB L[g].d L[g].tag) (λm aw=>?_) ?_
    .exact this
    .have i:m<F (L[g].K.map<|gB L[g].d L[g].tag):=by simpa using aw
     have k:=d.K.lt _ (fi aw);have l:F ((L[g].K.take m).map<|gB L[g].d L[g].tag)=m:=fv;have b:m<F ((L[g].K.take m).map (gB L[g].d L[g].tag)++fe (F L[g].K-m) (⟨0,0,0,[]⟩:fq)):=fv;unfold DO;simp only[cQ.cL];rw[(J:(L[g].b r).j5=L[g].K.map (gB L[g].d L[g].tag)),dO,dz i,c6,et i,cI,oG,RS d.d k,cI,et b,cI,gz,gx,e6 b,cI,e7 I,na aw,List.set_append_right _ _ I,l,v2,(dd:F L[g].K-m=(F L[g].K-(m+1))+1),OB,List.set_cons_zero,hN,iu];rfl
    .unfold DO;simp only[cQ.cL];rw[(J:(L[g].b r).j5=L[g].K.map (gB L[g].d L[g].tag)),dO,dr dh,dm,iV,v2,List.replicate_zero,nb]
   by_cases aA:K<L[g].u
   .rw[dr (dd:¬L[g].u<=K),dm,amA _ I,cI,o,cI];simp only[cQ.cL,iV];rw[i8 fv fv,cI,xK,show[L[g]].filter (λa=>decide (K<a.u))=[L[g]] by simp[aA],hN];rfl
   .rw[dz (dd:L[g].u<=K),c6,xK,show[L[g]].filter (λa=>decide (K<a.u))=[] by simp;omega,nb]
  .unfold DN;simp only;rw[dO,dr dh,dm,iV]
 unfold DM;rw[RH h,ad9 ax,cN];rfl
def ou(K:E Nat)(g:Nat):E Nat:=K.take (dn (λa=>a) K g)++[g]++K.drop (dn (λa=>a) K g)
theorem Ge{K:E Nat}{g a:Nat}:a∈ou K g↔a∈K\/a=g:=by
 unfold ou;rw[gq,gq,gO];constructor
 .rintro((C|C)|C)
  .exact .inl ef
  .exact .inr C
  .exact .inl ef
 .rintro(C|C)
  .rw[<-tn (dn (λa=>a) K g) K,gq]at C;rcases C with C|C
   .exact .inl cU
   .exact .inr C
  .exact .inl dd
def alA{i:mA}{K:E Nat}(b:sr i K){g:Nat}(af:g<i.eH)(cR:g∉K):sr i (ou K g):=by
 refine⟨(show iy (λa:Nat=>a) K from b.Bf).Gg (a:=g) ?_,λa d=>?_⟩
 .rintro⟨Y,j⟩;exact cR (j▸fi Y)
 .rcases Ge.1 d with h|rfl
  .exact b.lt a h
  .exact af
theorem alN{i:mA}(h:pA i){tag:Int}{K:E Nat}(b:sr i K){g:Nat}(af:g<i.eH)(cR:g∉K):JI (K.map (gB i tag)) (gB i tag g)=B ((ou K g).map (gB i tag),T,Z):=by
 have aj:=h.s8;have s:=h.sV;have p:=b.len;have t:=rW (f:=λa:Nat=>a) K g;have l:=sQ h g af;have ad:=qs h g af;have cN:dq (DQ (K.map<|gB i tag)<|gB i tag g) (0,0)=B (dn (λa=>a) K g:Int):=by
  have:=ow (i:=DQ (K.map<|gB i tag)<|gB i tag g) (λm=>(((min m (dn (λa=>a) K g):Nat):Int),(m:Int))) (F K) (r:=(dn (λa=>a) K g:Int)) (λm aw=>?_) ?_
  .simpa using this
  .have j:m<F (K.map<|gB i tag):=by simpa using aw
   have d:=b.lt _ (fi aw);have o:=sQ h K[m] d;have q:=qs h K[m] d;have aR:K[m]≠g:=λC=>cR (C▸fi aw)
   have Y:=s7 (f:=λa:Nat=>a) b.Bf g m aw;unfold DQ Ao An;simp only[cQ.cL];rw[dO,dz j,c6,et j,cI,oG,cI,cI,(J:(gB i tag g).iX=88*(g:Int)),(J:(gB i tag g).gA=kY i g),(J:(gB i tag K[m]).iX=88*(K[m]:Int)),(J:(gB i tag K[m]).gA=kY i K[m]),l,o,fx (a:=88*(g:Int)+(iI i g:Int)) I I,fx (a:=88*(K[m]:Int)+(iI i K[m]:Int)) I I,e7 I];rcases la K[m] g with C|C
   .have G:=Mf C af;have k:=Y.1 C;rw[dz (dd:88*(K[m]:Int)<88*(g:Int)+(iI i g:Int)),c6,dr (dd:¬88*(g:Int)<88*(K[m]:Int)+(iI i K[m]:Int)),dm,dz (dd:88*(K[m]:Int)<88*(g:Int)),c6,(dd:min (m+1) (dn (λa=>a) K g)=m+1)]
   .have G:=Mf (dd:g<K[m]) d;have k:¬m<dn (λa=>a) K g:=λa=>by have:=Y.2 a;omega
    rw[dr (dd:¬88*(K[m]:Int)<88*(g:Int)+(iI i g:Int)),dm,dr (dd:¬88*(K[m]:Int)<88*(g:Int)),dm,(dd:min (m+1) (dn (λa=>a) K g)=min m (dn (λa=>a) K g))]
  .unfold DQ;simp only;rw[dO,dr dh,dm,(dd:min (F K) (dn (λa=>a) K g)=dn (λa=>a) K g)]
 unfold JI;rw[cN,cI,RS h af,cI,Gf cU ef ef,cI];unfold ou;simp only[hN,nx,up,hx,jY]
theorem akf{ag:Type}(L:E ag)(j A:Nat)(an:ag)(hi:j<=F L):(jl L j A an).take j=L.take j:=by unfold jl;rw[iu,sc cU,ts,HK]
theorem Zp{r:Nat}{L:E gr}{z:Nat}(Y:z<F L)(k:F L<=5)(i:pA L[z].d)(g:sr L[z].d L[z].K)(aR:L[z].K≠[]):de (Ak ((z:Int),L.map (gr.b r))) λv=>v.2.2=0/\((v.2.1=[]/\v.1=L.map (gr.b r)/\ki L[z].d L[z].K<F L[z].d.c)\/(v.2.1=L[z].d.c/\ki L[z].d L[z].K=F L[z].d.c/\v.1=(L.take z++L.drop (z+1)).map (gr.b r))):=by
 have b:z<F (L.map<|gr.b r):=QB;have j:F (L.map<|gr.b r)=F L:=dh;unfold Ak;simp only[cQ.cL];rw[et b,cI,gz,gx,e6 b,cI,oG,(J:(L[z].b r).j5=L[z].K.map (gB L[z].d L[z].tag))];refine(alZ i g aR).bind λv ab=>?_
 obtain⟨y,ok⟩:=v;rcases ab with⟨G,a,d⟩|⟨G,a⟩
 .simp only at G a;subst G;subst a;rw[e7 (g:=z) I];simp only[c6,gz,j];have aG:F (f5 (F L-(z+1))<|k_ (z+1)<|L.map<|gr.b r)=F L-(z+1):=dh;have aD:z+(F L-(z+1))=F L-1:=I;rw[dz I,c6,hl dd,dm,dz I,c6,dz I,c6,aG,aD,dz I,c6,cI,cI];have aQ:F (f5 z (L.map<|gr.b r)++f5 (F L-(z+1)) (k_ (z+1)<|L.map<|gr.b r)++k_ (F L-1) (L.map<|gr.b r))=F L:=by simp;omega
  rw[aQ,dz I,c6,akf _ _ _ _ dd,dg];refine⟨rfl,.inr ⟨rfl,d,?_⟩⟩;simp only;have aH:f5 (F L-(z+1)) (k_ (z+1)<|L.map<|gr.b r)=k_ (z+1) (L.map<|gr.b r):=k9 dh;rw[sc fv,k9 fv,aH,hN,nx,up]
 .simp only at G;subst G;rw[dm,dg];exact cU
theorem akU{r:Nat}{L:E gr}(p:F L<=5){a:gr}{f:fq}(G:f.eA=a.tag)(i:f.iY=(F a.d.c:Int)):de (KL (L.map (gr.b r)) (fN a.s,fN r,f)) λv=>(v= -1/\∀o∈L,¬lW o a)\/∃z:Nat,v=(z:Int)/\∃Y:z<F L,lW L[z] a:=by
 unfold KL;refine de.bind (u:=λl:Unit⊕Int=>(l=.inl ()/\∀o∈L,¬lW o a)\/∃z:Nat,l=.inr (z:Int)/\∃Y:z<F L,lW L[z] a) (hk (λq=>∃g:Nat,q=(g:Int)/\g<=F L/\∀C (ap:C<F L),C<g->¬lW L[C] a) (λq=>((F L:Int)-q).toNat) (λq aj=>?_) ef) λl j=>?_
 .obtain⟨g,rfl,af,b⟩:=aj;unfold WF Px;by_cases aE:g<F L
  .have d:g<F (L.map<|gr.b r):=by simpa using aE
   have k:x2 (L[g].b r) (fN a.s) (fN r) f.eA f.iY=B (decide (lW L[g] a)):=by rw[G,i];exact abz (r:=r) (a:=L[g]) (o:=a)
   rw[dO,dz d,c6,et d,cI,oG];simp only;rw[k,cI,cI,e7 I];by_cases ap:lW L[g] a
   .rw[dz ap,c6,dg];exact .inr ⟨_,rfl,.inr ⟨g,rfl,aE,ap⟩⟩
   .rw[dr ap,dm,dg];refine .inl ⟨_,rfl,⟨g+1,rfl,I,λC m s=>?_⟩,I⟩;by_cases e:C=g
    .subst e;exact ap
    .exact b C m I
  .rw[dO,dr EZ,dm,dg];refine .inr ⟨_,rfl,.inl ⟨rfl,λo ad=>?_⟩⟩;obtain⟨C,ap,rfl⟩:=mf.1 ad;exact b C ap I
 .rcases j with⟨rfl,h⟩|⟨z,rfl,h⟩
  .exact dg.2<|.inl ⟨rfl,h⟩
  .exact dg.2<|.inr ⟨z,rfl,h⟩
def rQ(K:Int):Int:=if 1099511627776<K+12 then 1099511627776 else K+12
def pW(L:E gr)(K:Int):E gr:=L.filter λa=>decide (K<a.u)
structure afP(H2:E gr)(K:Int)(s:Nat)(tag:Int)(d:mA)(k:Nat)(La:E gr)(l_:E Int):Prop where
 ok:tv La
 Sn:(l_=[]/\∃a∈La,a.s=s/\a.tag=tag/\a.d=d/\(∀y∈La,y=a\/y∈H2/\¬lW y ⟨s,tag,d,[],0⟩)/\((a.u=rQ K/\a.K=[k])\/∃y∈H2,lW y ⟨s,tag,d,[],0⟩/\a.u=y.u/\a.K=ou y.K k))\/
  (l_=d.c/\(∀y∈La,y∈H2/\¬lW y ⟨s,tag,d,[],0⟩)/\(k=0\/∃y∈H2,lW y ⟨s,tag,d,[],0⟩/\0∈y.K))
def abh{L:E gr}(h:tv L)(K:Int):tv (pW L K):=⟨λa d=>h.all a<|(oE.1 d).1,h.ox.sublist Oy,mY (xJ _ _) h.len⟩
def MJ{a o:gr}(h:lW a o):lW o a:=⟨h.1.symm,h.2.1.symm,h.2.2.symm⟩
def SD{a o an:gr}(h:lW a o)(aF:lW o an):lW a an:=⟨h.1.trans aF.1,h.2.1.trans aF.2.1,h.2.2.trans aF.2.2⟩
def afI{i:mA}(h:pA i){K:E Nat}(a:sr i K)(aR:K≠[])(aj:ki i K=F i.c):0∈K:=by
 cases K with
 |nil=>exact absurd rfl aR
 |cons t K=>have:=aeF h a t rfl;have:t=0:=I;subst this;simp
def ai7{r:Nat}{L:E gr}(h:tv L){K:Int}(ax:fy K){q:Nat}{tag:Int}{i:mA}(k:pA i){g:Nat}(af:g<i.eH)(az:∀o∈pW L K,lW o ⟨q,tag,i,[],0⟩->o.d=i/\g∉o.K):de (JE (L.map (gr.b r)) (fN q) (fN r) (gB i tag g) K) λv=>v.2.2=10\/(v.2.2=0/\∃ak,v.1=ak.map (gr.b r)/\afP (pW L K) K q tag i g ak v.2.1):=by
 have b:=abh h K;have av:=b.len;unfold JE;rw[RH h,NA,NA,Bu k tag g af,aae h ax];simp only[cI,c6];rw[(J:((0:Int) !=0)=Z),dm];rw[(J:(L.filter λa=>decide (K<a.u))=pW L K)];generalize pW L K=aq at*;have aA:fy (rQ K):=by unfold rQ fy at*;split<;>omega
 have ay:DL K (gB i tag g) (fN q) (fN r)=B (gr.b r ⟨q,tag,i,[g],rQ K⟩):=by unfold DL;rw[RS k af,cI,fx (a:=K+12) W8 QE];rfl
 have Q:sr i [g]:=⟨dh,λa d=>by rw[gO.1 d];exact af⟩;refine(akU (r:=r) (L:=aq) I (a:=⟨q,tag,i,[],0⟩) (f:=gB i tag g) rfl rfl).bind λv ab=>?_
 rcases ab with⟨rfl,ag⟩|⟨z,rfl,Y,x⟩
 .rw[(J:(decide ((-1:Int)<0))=T),c6];refine ep.2 ⟨λ_=>dg.2<|.inl rfl,λC=>?_⟩;have aC:F aq<4:=by have:¬(F (aq.map<|gr.b r):Int)>=4:=EU;rw[fT]at this;omega
  rw[ay,cI,iV];simp only[cQ.cL];rw[i8 fv fv,cI];have aG:aq.map (gr.b r)++[gr.b r ⟨q,tag,i,[g],rQ K⟩]=(aq++[(⟨q,tag,i,[g],rQ K⟩:gr)]).map (gr.b r):=dh;have A:F aq<F (aq++[(⟨q,tag,i,[g],rQ K⟩:gr)]):=dh;have j:(aq++[(⟨q,tag,i,[g],rQ K⟩:gr)])[F aq]'A=⟨q,tag,i,[g],rQ K⟩:=dh;rw[aG,fT];refine(Zp (r:=r) A fv (by rw[j];exact k) (by rw[j];exact Q) (by rw[j];simp)).mono λv ab=>?_
  rw[j]at ab;have⟨dI,ab⟩:=ab;refine .inr ⟨dI,?_⟩;rcases ab with⟨G,u,m⟩|⟨G,u,m⟩
  .refine⟨_,u,⟨λa d=>?_,?_,fv⟩,.inl ⟨G,⟨q,tag,i,[g],rQ K⟩,dh,rfl,rfl,rfl,λo ad=>?_,.inl ⟨rfl,rfl⟩⟩⟩
   .rcases gq.1 d with d|d
    .exact b.all a d
    .rw[gO.1 d];exact⟨k,Q,dh,m,aA⟩
   .refine py.2 ⟨b.ox,dh,λa d o ad=>?_⟩;rw[gO.1 ad];exact ag a d
   .rcases gq.1 ad with ad|ad
    .exact .inr ⟨ad,ag o ad⟩
    .exact .inl<|gO.1 ad
  .refine⟨aq,?_,⟨b,.inr ⟨G,λo ad=>⟨ad,ag o ad⟩,.inl ?_⟩⟩⟩
   .rw[m];simp
   .have:=afI k Q dh u;exact(gO.1 this).symm
 .have ao:z<F (aq.map<|gr.b r):=by simpa using Y
  have⟨ai,N⟩:=az _ (fi Y) x;have ad:=b.all _ (fi Y);rw[dr (dd:¬(z:Int)<0),dm];simp only[cQ.cL];rw[et ao,cI,gz,gx,e6 ao,cI,oG];have ah:=ad.K;rw[ai]at ah;have ar:aq[z].tag=tag:=x.2.1;have aB:aq[z].s=q:=x.1;rw[show(aq[z].b r).j5=aq[z].K.map (gB i tag) by show aq[z].K.map (gB aq[z].d aq[z].tag)=_;rw[ai,ar],alN k ah af N,cI];simp only[dm,c6,cI];have aG:(aq.map<|gr.b r).set z ⟨(aq[z].b r).dU,(aq[z].b r).ed,(aq[z].b r).eA,(aq[z].b r).iY,(ou aq[z].K g).map<|gB i tag,(aq[z].b r).ge⟩=(aq.set z ⟨q,tag,i,ou aq[z].K g,aq[z].u⟩).map (gr.b r):=by rw[List.map_set];congr 1;show(⟨fN aq[z].s,fN r,aq[z].tag,(F aq[z].d.c:Int),_,_⟩:eG)=⟨fN q,fN r,tag,(F i.c:Int),_,_⟩;rw[aB,ar,ai];rfl
  have A:z<F (aq.set z ⟨q,tag,i,ou aq[z].K g,aq[z].u⟩):=QB;have j:(aq.set z ⟨q,tag,i,ou aq[z].K g,aq[z].u⟩)[z]'A=⟨q,tag,i,ou aq[z].K g,aq[z].u⟩:=dh;have S:=alA ah af N;have aa:ou aq[z].K g≠[]:=λC=>by have:g∈ou aq[z].K g:=Ge.2<|.inr rfl;rw[C]at this;cases this
  have aj:∀o∈aq,∀C (ap:C<F aq),aq[C]=o->lW o ⟨q,tag,i,[],0⟩->C=z:=λo _ C ap e N=>by
   subst e;have au:=SD N<|MJ x;rcases Cr C z with s|s|s
   .exact absurd au<|px.1 b.ox C z ap Y s
   .exact s
   .exact absurd (MJ au)<|px.1 b.ox z C Y ap s
  rw[aG];refine(Zp (r:=r) A fv (by rw[j];exact k) (by rw[j];exact S) (by rw[j];exact aa)).mono λv ab=>?_
  rw[j]at ab;have⟨dI,ab⟩:=ab;refine .inr ⟨dI,?_⟩;rcases ab with⟨G,u,m⟩|⟨G,u,m⟩
  .refine⟨_,u,⟨λa d=>?_,px.2 λt l al am aw=>?_,fv⟩,.inl ⟨G,⟨q,tag,i,ou aq[z].K g,aq[z].u⟩,?_,rfl,rfl,rfl,λo p=>?_,.inr ⟨aq[z],fi Y,x,rfl,rfl⟩⟩⟩
   .rcases xH d with d|rfl
    .exact b.all a d
    .exact⟨k,S,aa,m,ad.u⟩
   .simp only[sb]at al am;have an:lW ⟨q,tag,i,ou aq[z].K g,aq[z].u⟩ aq[z]:=MJ x;rw[v9,v9];have ae:=px.1 b.ox t l al am aw;split
    next e=>subst e;rw[dA I];exact λC=>ae<|SD (MJ an) C
    .split
     next e=>subst e;exact λC=>ae<|SD C an
     .exact ae
   .have:=fi A;rwa[j]at this
   .obtain⟨C,ap,rfl⟩:=mf.1 p;simp only[sb]at ap;rw[v9];split
    .exact .inl rfl
    next aR=>exact .inr ⟨fi ap,λy=>aR (aj _ (fi ap) C ap rfl y).symm⟩
  .have aD:(aq.set z ⟨q,tag,i,ou aq[z].K g,aq[z].u⟩).take z++(aq.set z ⟨q,tag,i,ou aq[z].K g,aq[z].u⟩).drop (z+1)=aq.take z++aq.drop (z+1):=by rw[List.take_set_of_le I,Ox I]
   rw[aD]at m;have D:(aq.take z++aq.drop (z+1)).Sublist aq:=by have:aq.take z++aq.drop (z+1)=aq.eraseIdx z:=(List.eraseIdx_eq_take_drop_succ aq z).symm;rw[this];exact List.eraseIdx_sublist aq z
   refine⟨_,m,⟨⟨λa d=>b.all a<|D.subset d,b.ox.sublist D,mY D.length_le av⟩,.inr ⟨G,λo p=>⟨D.subset p,λy=>?_⟩,?_⟩⟩⟩
   .rcases gq.1 p with p|p
    .obtain⟨C,ap,rfl⟩:=mf.1 p;rw[uw]at y;simp at ap;have:=aj _ (fi _) C I rfl y;omega
    .obtain⟨C,ap,rfl⟩:=mf.1 p;rw[Ot]at y;simp at ap;have:=aj _ (fi _) (z+1+C) I rfl y;omega
   .rcases Ge.1 (afI k S aa u)with P|P
    .exact .inr ⟨aq[z],fi Y,x,P⟩
    .exact .inl P.symm
def v0(b:Int)(y:Nat)(d:Int)(l:Nat)(a:E Int):E Int:=[48]++(d4 b 5++(f4 y++(d4 d 4++([128]++([0]++(f4 l++a))))))
def afG(b:Int)(y:Nat)(d:Int)(l:Nat)(a:E Int):F (v0 b y d l a)=28+F a:=by simp[v0,gY,f4];omega
def afH{b:Int}{y:Nat}{g:Int}{l:Nat}{a:E Int}(cK:y<4)(d:l<4)(h:fS a):fS (v0 b y g l a):=hY (sZ rfl) (hY (ko _ _)<|hY (t1 cK)<|hY (ko _ _)<|hY (sZ rfl)<|hY (sZ rfl)<|hY (t1 d) h)
def atf{a:Int}{y:Nat}{b:Int}{l:Nat}{d:E Int}(i:0<=a/\a<=1099511627775)(cR:iK b)(cK:y<4)(g:l<4)(cN:F d<=1500):Dl ⟨a,fF y,b,dst l⟩ d=B (v0 a y b l d):=by
 unfold iK at cR;unfold Dl;rw[show U W (28+(F d:Int))=28+(F d:Int)from fx I I];refine dS (v:=0) ?_ ?_
 .unfold h4;rw[dE ⟨I,I,I,I⟩];rfl
 refine dS (v:=[48]) (he [] [48] I dh) ?_;rw[show U cZ (l7.mk a (fF y) b (dst l)).Cw=a from ju i.1 (by show a<_;omega),show U cZ (l7.mk a (fF y) b (dst l)).ga=b from ju cR.1 (by show b<_;omega)];refine dS (k1 [48] a 5 I dh) ?_;refine dS (v:=[48]++d4 a 5++f4 y) ((k1 _ (fF y) 8 I of).trans (by rw[w3 cK])) ?_;refine dS (k1 _ b 4 I u4) ?_;refine dS (v:=[48]++d4 a 5++f4 y++d4 b 4++[128,0]) (he _ _ I (by simp[gY,f4,cQ.cL])) ?_;refine dS (v:=[48]++d4 a 5++f4 y++d4 b 4++[128,0]++f4 l) ((k1 _ (fF l) 8 I u4).trans (by rw[w3 g])) ?_;refine dS (he _ _ I (by simp[gY,f4,cQ.cL];omega)) ?_;simp[v0,cQ.cL]
theorem asI{b:Int}{y:Nat}{d:Int}{l:Nat}{a:E Int}(j:0<=b/\b<=1099511627775)(cR:iK d)(cK:y<4)(i:l<4)(k:fS a)(cN:F a<=1500):Dk (v0 b y d l a)=B (⟨b,fF y,d,⟨⟨jX,128⟩,⟨jX,0⟩,fF l⟩⟩,a,T):=by
 unfold iK at cR;have aP:=afG b y d l a;have g:=afH (b:=b) (g:=d) cK i k;unfold Dk;refine gL ef<|dS (v:=48) rfl (gL rfl ?_);refine dS (v:=(b,T)) ?_ ?_
 .have:=tc g (a:=[48]) (A:=d4 b 5) (o:=f4 y++(d4 d 4++([128]++([0]++(f4 l++a))))) E0 (j:=1) (n:=5) rfl (gY _ _) I I I;rwa[lO _ _ j.1 (by have:=j.2;omega)]at this
 refine dS (v:=(fF y,T)) ?_ ?_
 .have:=tc g (a:=[48]++d4 b 5) (A:=f4 y) (o:=d4 d 4++([128]++([0]++(f4 l++a)))) E0 (j:=6) (n:=8) of rfl I I I;rwa[y0 cK]at this
 refine dS (v:=(d,T)) ?_ ?_
 .have:=tc g (a:=[48]++d4 b 5++f4 y) (A:=d4 d 4) (o:=[128]++([0]++(f4 l++a))) E0 (j:=14) (n:=4) u4 (gY _ _) I I I;rwa[lO _ _ cR.1 (by have:=cR.2;omega)]at this
 refine dS (v:=(128,T)) ?_ ?_
 .exact tc g (a:=[48]++d4 b 5++f4 y++d4 d 4) (A:=[128]) (o:=[0]++(f4 l++a)) E0 (j:=18) (n:=1) u4 rfl I I I
 refine dS (v:=(0,T)) ?_ ?_
 .exact tc g (a:=[48]++d4 b 5++f4 y++d4 d 4++[128]) (A:=[0]) (o:=f4 l++a) E0 (j:=19) (n:=1) u4 rfl I I I
 refine dS (v:=(fF l,T)) ?_ ?_
 .have:=tc g (a:=[48]++d4 b 5++f4 y++d4 d 4++[128]++[0]) (A:=f4 l) (o:=a) E0 (j:=20) (n:=8) u4 rfl I I I;rwa[y0 i]at this
 refine dS (v:=a) ?_ ?_
 .have e:v0 b y d l a=([48]++d4 b 5++f4 y++d4 d 4++[128]++[0]++f4 l)++a:=by simp[v0]
  rw[e];exact oz _ a 28 u4
 refine dS (v:=a) ?_ ?_
 .unfold nN;simp only[cQ.cL];first
   |exact dS (he [] a I fv) rfl
   |(rw[yO I I];rfl)
 .simp only;rw[fx (a:=b) I I,xz cR.1 I];rfl
structure lI(t l:Nat)(z:ee):Prop where
 kJ:z.dU=fk t
 dst:z.ed=fk l
 FT:0<=z.ig/\z.ig<=255
 F2:0<=z.ij/\z.ij<=1048575
 next:z.Next=17\/z.Next=59
 hops:1<=z.e3/\z.e3<=255
 B1:z.Next=17->z.j_=61617/\g6 z.gM
 zg:z.Next=59->z.j_=0/\z.gM=0
 ok:fS z.f7
 len:F z.f7<=150
def lm(c f:Int):Int×E Int:=if c≠0 then(if f≠0 then(0,[c]++d4 f 3)else(2,[c]))else if f≠0 then(1,d4 f 3)else(3,[])
def lk(a:Int):Int×E Int:=if a=17 then(4,[])else(0,[a])
def kd(a:Int):Int×E Int:=if a=1 then(1,[])else if a=64 then(2,[])else if a=255 then(3,[])else(0,[a])
def ae5(c f:Int):F (lm c f).2<=4:=by
 unfold lm;split
 .split<;>simp[gY]
 .split<;>simp[gY]
def Ur(c f:Int):(lm c f).1=0\/(lm c f).1=1\/(lm c f).1=2\/(lm c f).1=3:=by
 unfold lm;split
 .split<;>simp
 .split<;>simp
def M4(a:Int):((lk a).1=0\/(lk a).1=4)/\F (lk a).2<=1:=by unfold lk;split<;>simp
def Mw(a:Int):((kd a).1=0\/(kd a).1=1\/(kd a).1=2\/(kd a).1=3)/\F (kd a).2<=1:=by
 unfold kd;split
 .simp
 .split
  .simp
  .split<;>simp
def lv(z:ee):Int:=96+8*(lm z.ig z.ij).1+(lk z.Next).1+(kd z.e3).1
def lu(z:ee):E Int:=(lm z.ig z.ij).2++((lk z.Next).2++(kd z.e3).2)
def aao(z:ee):F (lu z)<=6:=by have G:=ae5 z.ig z.ij;have a:=(M4 z.Next).2;have b:=(Mw z.e3).2;simp only[lu,g9];omega
theorem akT{t l:Nat}{z:ee}(h:lI t l z):Iv z=B (lv z,lu z):=by
 have p:=h.F2;have ax:=ae5 z.ig z.ij;have s:=Ur z.ig z.ij;have cR:=M4 z.Next;have q:=Mw z.e3;have i:∀(b:E Int×Int) (k:E Int×Int),b.2=(lm z.ig z.ij).1->k=(lu z,(kd z.e3).1)->xV z b k=B (lv z,lu z):=by
  rintro⟨a,o⟩ k ad rfl;simp only at ad;subst ad;unfold xV wh;have e:(bif z.Next==17 then B (4:Int)else B 0)=B (lk z.Next).1:=by rcases h.next with C|C<;>rw[C]<;>rfl
  rw[e,cI];simp only;congr 2;unfold lv;simp only[UF];omega
 have m:∀(b:E Int×Int) (j:E Int),b.2=(lm z.ig z.ij).1->j=(lm z.ig z.ij).2++(lk z.Next).2->CU z b j=B (lv z,lu z):=by
  rintro b j ad rfl;have cN:F ((lm z.ig z.ij).2++(lk z.Next).2)<=5:=agK;unfold CU;by_cases aC:z.e3=1
  .rw[aC];exact i _ _ ad (by simp[lu,kd,aC])
  rw[hl aC,dm];by_cases au:z.e3=64
  .rw[au];exact i _ _ ad (by simp[lu,kd,au])
  rw[hl au,dm];by_cases aL:z.e3=255
  .rw[aL];exact i _ _ ad (by simp[lu,kd,aL])
  rw[hl aL,dm];refine dS (he _ _ I (by show _+F ([z.e3]:E Int)<=_;simp only[lG];omega)) ?_;exact i _ _ ad (by simp[lu,kd,aC,au,aL,cQ.cL])
 have g:∀(b:E Int×Int),b.2=(lm z.ig z.ij).1->b.1=(lm z.ig z.ij).2->xU z b=B (lv z,lu z):=by
  rintro⟨a,o⟩ ad d;simp only at d;subst d;unfold xU;rcases h.next with C|C
  .rw[C];exact m _ _ ad (by simp[lk,C])
  .rw[C];refine dS (he _ _ I (by show _+F ([59]:E Int)<=_;simp only[lG];omega)) ?_;exact m _ _ ad (by simp[lk,C,cQ.cL])
 unfold Iv;rw[ju p.1 I];by_cases aC:z.ig=0
 .rw[aC];by_cases au:z.ij=0
  .rw[au];exact g _ yy yy
  .refine gL rfl (gt cU<|dS (k1 [] z.ij 3 I dh) ?_);exact g _ yy yy
 .refine gt cU ?_;by_cases au:z.ij=0
  .rw[au];exact g _ yy yy
  .refine gt cU (dS (k1 [z.ig] z.ij 3 I dh) ?_);exact g _ yy yy
def mp(t q:Nat):E Int:=if t=q then[]else[0,0,0,0,0,0,0,(t:Int)+1]
def o_(t q:Nat):Int:=if t=q then 3 else 1
def MT(t:Nat):E Int:=[254,128,0,0,0,0,0,0,0,0,0,0,0,0,0,(t:Int)+1]
def R2:zU [jR]=B T:=J
def Z2{a:Int}(h:fy a):zV a=B T:=by unfold zV;rw[dz h.1,dz h.2];rfl
def ar1{t:Nat}(a:t<4):Cx (fk t)=B (2306139568115548160,(t:Int)+1):=kB (z:=λt=>Cx (fk t)=B (2306139568115548160,(t:Int)+1)) J J J J a
def alY{t:Nat}(a:t<4):sk ⟨[254,128,0,0,0,0,0,0,0,0,0,0,0,0,0,0],64⟩ ((t:Int)+1)=B (MT t,T):=kB (z:=λt=>sk ⟨[254,128,0,0,0,0,0,0,0,0,0,0,0,0,0,0],64⟩ ((t:Int)+1)=B (MT t,T)) J J J J a
def aa7{t:Nat}(a:t<4):sk jR.o3 ((t:Int)+1)=B (fk t,T):=kB (z:=λt=>sk jR.o3 ((t:Int)+1)=B (fk t,T)) J J J J a
def amq{t:Nat}(a:t<4):rm (fk t) 64=B jR.o3:=kB (z:=λt=>rm (fk t) 64=B jR.o3) J J J J a
def Ss{q:Nat}(aj:q<4):zP (fN q)=B ((q:Int)+1,T):=kB (z:=λq=>zP (fN q)=B ((q:Int)+1,T)) J J J J aj
def arW{t:Nat}(a:t<4):C0 ((t:Int)+1)=B ([],Z):=kB (z:=λt=>C0 ((t:Int)+1)=B ([],Z)) J J J J a
def alu{t:Nat}(a:t<4):hy [] ((t:Int)+1) 8=B [0,0,0,0,0,0,0,(t:Int)+1]:=kB (z:=λt=>hy [] ((t:Int)+1) 8=B [0,0,0,0,0,0,0,(t:Int)+1]) J J J J a
def LX{t:Nat}(a:t<4):nn 16 (MT t) (fk t)=Z/\nn 16 (fk t) (fk t)=T/\nn 16 (fk t) jX=Z/\uG (fk t)=B Z:=kB (z:=λt=>nn 16 (MT t) (fk t)=Z/\nn 16 (fk t) (fk t)=T/\nn 16 (fk t) jX=Z/\uG (fk t)=B Z) ⟨J,J,J,J⟩ ⟨J,J,J,J⟩ ⟨J,J,J,J⟩ ⟨J,J,J,J⟩ a
def akX{t:Nat}(a:t<4){K:Int}(ax:0<=K/\K<1099511627776):CC [jR] (fk t) K=B (jR,T):=by
 have cN:dq (OZ [jR] K<|fk t) (Z,0,⟨0,⟨jX,0⟩,Z,0⟩)=B (T,jR):=by
  refine ow (λg=>if g=0 then(Z,(0:Int),(⟨0,⟨jX,0⟩,Z,0⟩:gj))else(T,1,jR)) 1 (λg af=>?_) ?_
  .have:g=0:=by omega
   subst this;unfold OZ O0;simp only[if_true,lG];rw[(J:di [jR] 0=B jR),cI,(J:jR.OM=T),(J:jR.ge=1099511627776),dz ax.2,(J:jR.o3.fu=64),amq a];rfl
  .rfl
 unfold CC;rw[R2,cI,c6,Z2 ⟨ax.1,I⟩,cI,c6];exact dS cN rfl
def afc{t q:Nat}(b:t<4)(aj:q<4)(f:Bool){K:Int}(ax:0<=K/\K<1099511627776):C1 (fk t) (fN q) f [jR] K=B ⟨T,0,o_ t q,mp t q⟩:=by
 have⟨g,i,d,_⟩:=LX b;have key:∀(a o:X tM),a=(if t=q then B (⟨T,0,3,[]⟩:tM)else B ⟨T,0,1,[0,0,0,0,0,0,0,(t:Int)+1]⟩)->a=B ⟨T,0,o_ t q,mp t q⟩:=by intro a _ h;rw[h];unfold o_ mp;split<;>rfl
 refine key _ M ?_;unfold C1 xW;unfold jX at d;rw[ar1 b,Ss aj];simp only[cI,alY b,akX b ax,aa7 b,g,i,d,c6,dm,Ss aj,(J:jR.oa=0),arW b,alu b];by_cases e:t=q
 .subst e;rw[dE rfl,beq_self_eq_true,c6];cases f<;>rfl
 .rw[dA e,hl (dd:¬(q:Int)+1=(t:Int)+1),dm];cases f<;>rfl
def mR(t q l r:Nat):Int:=68+16*o_ t q+o_ l r
def qt(t q l r:Nat)(z:ee):E Int:=[lv z,mR t q l r]++lu z++mp t q++mp l r
def LU(t q:Nat):F (mp t q)<=8:=by unfold mp;split<;>simp
def Zo{t:Nat}(q:Nat)(a:t<4):fS (mp t q):=by
 unfold mp;split
 .exact λan N=>ry
 .intro an N;simp only[l3,uo,or_false]at N;rcases N with rfl|rfl|rfl|rfl|rfl|rfl|rfl|rfl<;>omega
def Mq(z:ee):96<=lv z/\lv z<=127:=by have G:=Ur z.ig z.ij;have a:=(M4 z.Next).1;have b:=(Mw z.e3).1;unfold lv;omega
def wV(t q:Nat):o_ t q=1\/o_ t q=3:=by unfold o_;split<;>simp
def T7(t q l r:Nat):0<=mR t q l r/\mR t q l r<=127:=by have G:=wV t q;have a:=wV l r;unfold mR;omega
def Mv(t q l r:Nat)(z:ee):F (qt t q l r z)<=24:=by have G:=LU t q;have a:=LU l r;have b:=aao z;unfold qt;simp only[g9,l6,kv];omega
def lZ{a:Int}(h:0<=a/\a<=255):U cH a=a:=by rw[afF];omega
def abs{t l:Nat}(a:t<4){z:ee}(h:lI t l z):ws z=B T:=by
 have cN:=h.len;unfold ws tA;rw[dr (by have:=h.F2;omega),dm,h.kJ,(LX a).2.2.2,cI,dm];rcases h.next with C|C
 .rw[C,fx I I];simp only[beq_self_eq_true,c6,cI];rw[dr I];rfl
 .rw[C,(J:((59:Int)==17)=Z),dm,fx (a:=40+(F z.f7:Int)) I I,cI,dr I,dm,dm,(h.zg C).1,(h.zg C).2];rfl
def ZS{q r:Nat}{K:Int}(ax:fy K):CT (fN q) (fN r) [jR] K=B 0:=by unfold CT;rw[Gm,Gm,R2];simp only[cI,c6];rw[dr W8,dr QE];rfl
def alU{t l q r:Nat}(a:t<4)(b:l<4)(aj:q<4)(ay:r<4){z:ee}(h:lI t l z){K:Int}(ax:0<=K/\K<1099511627776):Iu z (fN q) (fN r) [jR] K=B (qt t q l r z,0):=by
 have G:=Mq z;have j:=T7 t q l r;have k:=aao z;have m:=LU t q;have o:=LU l r;have g:=wV t q;have i:=wV l r;unfold Iu wh;rw[abs a h,ZS ⟨ax.1,I⟩,akT h,h.kJ,h.dst];simp only[cI,c6,afc a aj T ax,afc b ay Z ax,(LX b).2.2.2,dm,(J:((0:Int) !=0)=Z),(J:(U W ((U W (16*0))+0) !=0)=Z)];rw[lZ ⟨I,I⟩];have e:U cH (U W<|(U W<|(U W<|(0:Int)+64)+(U W<|16*o_ t q))+(U W<|(U W<|(0:Int)+4)+o_ l r))=mR t q l r:=by rcases g with C|C<;>rcases i with d|d<;>unfold mR<;>rw[C,d]<;>rfl
 rw[e,he _ _ I (by simp only[cQ.cL,l6,kv];omega),cI,he _ _ I agL,cI,he _ _ I agL];rfl
end
end Go.Proofs.YtddmdeaegbfhaaaGreat
