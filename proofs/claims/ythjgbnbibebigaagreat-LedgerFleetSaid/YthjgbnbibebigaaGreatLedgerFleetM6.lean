/- Parts of the proof:RqA,Rqam,RqB,Cz1m,CzA,Rq1m,Rq2m,RqC,SpA,SpB,Sg1m,SgA,SgB,Sg2m,SgC,SgD,SgE,SgH,Rp1m,RpA,Rp2m,RpB,Rp3m,RpC,Sg3m,SgF,Leam,Leb,Lecm,LeF,Cz2m,CzB,Cl1m,RqD,ClA,Cl2m,ClB,Cl3m,ClC,Cl4m,ClD,Lf1m. -/
import Derived.KernelRfl
import Derived.Test.YthjgbnbibebigaaGreatProg
import Derived.Test.YthjgbnbibebigaaGreatLedgerFleetM5
noncomputable section
set_option linter.unusedVariables false
set_option linter.unusedSimpArgs false
open Go Go.AX Go.Proofs
set_option maxRecDepth 100000
set_option linter.unusedVariables false
set_option linter.unusedSimpArgs false
open Go.IntKind (i64 u64)
open List renaming map->U4,replicate->U5,drop->U6,take->U7
open Int renaming toNat->U9
open Go.AX.AV renaming lst->Va
open Go.Proofs.Tryz renaming prog->Vb
namespace Go.Proofs.YthjgbnbibebigaaGreat
theorem _root_.Go.AX.BA.av{P:Program}{m:Nat}{ops:Array Oper}{o:Oper}{r:List Oper}{n d:Nat}{fr:List (Nat×AV)}{hp:List (Option Blk)}{k:St->Prop}(v:AV)(hg:o.guard=none)(ho:o.dst=some d)(hd:Nat.ble (d+1) n=true)(h:aop P o (St.ev ⟨n,fr,hp⟩) hp .no=some ({v},True))(q:BA P m ops r ⟨n,(d,v)::fr,hp⟩ k):BA P m ops (o::r) ⟨n,fr,hp⟩ k:=.val (noG hg) ho (UC hd) ((OW h trivial).1.dn rfl) q
def bsA(m:Nat->Bool)(n:Nat):List AV:=(List.range n).map fun k=>.bool (m k)
theorem Gc(m:Nat->Bool)(n:Nat):(bsA m n).length=n:=by unfold bsA;simp
theorem OK(m:Nat->Bool){n k:Nat}(h:k<n):(bsA m n)[k]?=some (.bool (m k)):=by unfold bsA;rw[Up,UA h];rfl
theorem Rt(n:Nat):U5 n (AV.bool false)=bsA (fun _=>false) n:=by unfold bsA;rw[List.map_const',UV]
theorem Q4(m:Nat->Bool)(n x:Nat):(bsA m n).set (0+x) (.bool true)=bsA (BX m x) n:=by
 rw[Uu];refine List.ext_getElem? fun k=>?_
 rw[U1,Gc];by_cases hk:k<n
 .rw[OK _ hk,OK _ hk,BF];by_cases hx:x=k
  .subst hx;rw[Ud rfl,Ud hk,Ud rfl]
  .rw[Ue hx,Ue (fun e=>hx e.symm)]
 .rw[UB (by rw[Gc];omega),UB (by rw[Gc];omega)];split
  .rw[Ue (by omega)]
  .rfl
theorem D6:tsz Vb 4=some (1,false):=by kernel_rfl
theorem D9:Bu Vb 34=some (none,1):=by kernel_rfl
def rqS(g:List (List Int))(s:List Bool)(i q b:Nat)(hp:List (Option Blk)):St:=⟨Tryz.f161.ntmps,[(0,.lst (gL g)),(1,.lst (boL s)),(7,.sl 0 0 (gL g).length),(8,.sl b i q)],hp⟩
def rqJ(g:List (List Int))(s:List Bool)(i q b:Nat)(x:Int)(k:Nat)(hp:List (Option Blk)):St:=⟨Tryz.f161.ntmps,[(0,.lst (gL g)),(1,.lst (boL s)),(7,.sl 0 0 (gL g).length),(8,.sl b i q),(9,.int .i64 x),(10,.int .i64 (k:Int))],hp⟩
structure RqI(g:List (List Int))(m:Nat->Bool)(es:List AV)(st:List Int)(i b:Nat)(hp:List (Option Blk)):Prop where
 top:nth hp 0=some (Blk.mk (bsA m g.length) 1 true true none)
 blk:nth hp b=some (Blk.mk es 1 true true none)
 pos:1<=b
 dr:es.drop i=st.map (AV.int .i64)
 siz:es.length+cUn m 24<=24
 le:i<=es.length
structure RqX where
 m:Nat->Bool
 es:List AV
 st:List Int
 i:Nat
 b:Nat
 hp:List (Option Blk)
theorem PL{n N:Nat}{es:List AV}{hp:List (Option Blk)}(h:nth hp 0=some (Blk.mk es 1 true true none))(hn:N=es.length):Ren 0 ⟨n,[(0,.sl 0 0 N)],hp⟩ ⟨n,[(0,.lst es)],[]⟩:=by
 refine Ren.of (p:=N=es.length/\True) [] [0] [0] ?_ ⟨hn,trivial⟩ rfl rfl rfl;have e:A6 [] [0] hp 3 (.sl 0 0 N)=(.lst es,N=es.length):=by
  show(match Dp [] [0] hp 0 0 N with | some x=>x | none=>(AV.unk,True))=_;have:Dp [] [0] hp 0 0 N=some (.lst es,N=es.length):=by unfold Dp;show(match Bd [0] 0,nth hp 0 with | true,some blk=>_ | _,_=>none)=_;rw[h];rfl
  rw[this]
 show(match DG [] [0] hp with | some hp'=>_ | none=>none)=_;show some _=_;simp only[Ub,Uc,AX.Au,Nat.beq_refl,e,List.foldr]
theorem RD{m:Nat->Bool}{g:List (List Int)}{es:List AV}{st:List Int}{i b:Nat}{hp:List (Option Blk)}(h:RqI g m es st i b hp):st.length=es.length-i:=by have:=congrArg List.length h.dr;rw[T5,Ui] at this;exact this.symm
theorem reach_ct{g:List (List Int)}{s:List Bool}(hg:GOk g)(hs:s.length=g.length){v:Nat}(hv:v<g.length):CT Vb 161 [] [.lst (gL g),.lst (boL s),.int .i64 (v:Int)] [] (.lst (boL ((List.range g.length).map (mkB g s v)))):=by
 have h24:=hg.len;have hlg:(gL g).length=g.length:=BZ g;have hbo:boL ((List.range g.length).map (mkB g s v))=bsA (mkB g s v) g.length:=by unfold boL bsA;rw[List.map_map];rfl
 rw[hbo];have gsA:∀x:Nat,x<g.length->(boL s)[x]?=some (.bool (s.getD x true)):=fun x hx=>by unfold boL;rw[Up,Ax true (by omega)];rfl
 have hsv:=gsA v hv;refine CT.of Tryz.func161 (show Tryz.f161.body=some (zB Tryz.f161) from by kernel_rfl) (nL rfl) ?_;refine T.seq ?_;refine T.ops (st':=?su1) ?steps1 ?post1
 case steps1=>refine .av (.nils) rfl rfl rfl (by kernel_rfl) ?_;exact .nil _
 show T Vb 0 _ _ _;refine T.seq ?_;refine T.ops (st':=?su2) ?steps2 ?post2
 case steps2=>refine .av (.lst (gL g)) rfl rfl rfl (by kernel_rfl) ?_;refine .av (.int .i64 (iN (gL g).length)) rfl rfl rfl (by kernel_rfl) ?_;refine .new (v:=.sl 0 0 (gL g).length) (blk:=bK (U5 (gL g).length (.bool false)) 1) rfl rfl (nL rfl) (BU rfl (hint:=.no) (R:={v:=.sl 0 0 (gL g).length,new:=[bK (U5 (gL g).length (.bool false)) 1]}) (p:=0<=iN (gL g).length/\iN (gL g).length<=iN (gL g).length/\((1:Nat):Int) * iN (gL g).length<=281474976710656/\iN (gL g).length<=9223372036854775807) (by kernel_rfl) (by simp only[iN,hlg];omega)).1 ?_;refine .av (.sl 0 0 (gL g).length) rfl rfl rfl (by kernel_rfl) ?_;exact .nil _
 show T Vb 0 _ _ _;refine T.seq (T.seq ?_);cases hsb:s.getD v true with
 | true=>
  refine T.ops (st':=?su3) ?steps3 ?post3
  case steps3=>refine .av (.lst (boL s)) rfl rfl rfl (by kernel_rfl) ?_;refine .av (.int .i64 (v:Int)) rfl rfl rfl (by kernel_rfl) ?_;refine .va (.iptr [.bool true]) rfl rfl rfl (CL (es:=boL s) (m:=(v:Int)) (e:=.bool true) rfl rfl rfl D9 (by omega) (by rw[Uo,hsv,hsb]) rfl) ?_;refine .va (.bool true) rfl rfl rfl (CZ rfl rfl D6 rfl rfl) ?_;exact .nil _
  show T Vb 0 _ _ _;refine T.cond_true rfl (T.seq ?_);refine T.ops (st':=?su4) ?steps4 ?post4
  case steps4=>refine .av (.sl 0 0 (gL g).length) rfl rfl rfl (by kernel_rfl) ?_;refine .av (.sl 0 0 (gL g).length) rfl rfl rfl (by kernel_rfl) ?_;exact .nil _
  show T Vb 0 _ _ _;have hno:mkB g s v=fun _=>false:=by
   funext k;refine Oj fun h=>?_
   have:s.getD v true=false:=by
    clear hsv;induction h with
    | refl h=>exact h
    | step _ _ _ ih=>exact ih
   rw[hsb] at this;cases this
  rw[hno];refine T.ret ?_;refine⟨.inr rfl,.sl 0 0 (gL g).length,⟨Tryz.f161.ntmps,[(0,.lst (bsA (fun _=>false) g.length))],[]⟩,rfl,PL (by rw[<-Rt,<-hlg];rfl) (by rw[Gc,hlg]),rfl,rfl,(nL rfl)⟩
 | false=>
  refine T.ops (st':=?su5) ?steps5 ?post5
  case steps5=>refine .av (.lst (boL s)) rfl rfl rfl (by kernel_rfl) ?_;refine .av (.int .i64 (v:Int)) rfl rfl rfl (by kernel_rfl) ?_;refine .va (.iptr [.bool false]) rfl rfl rfl (CL (es:=boL s) (m:=(v:Int)) (e:=.bool false) rfl rfl rfl D9 (by omega) (by rw[Uo,hsv,hsb]) rfl) ?_;refine .va (.bool false) rfl rfl rfl (CZ rfl rfl D6 rfl rfl) ?_;exact .nil _
  show T Vb 0 _ _ _;refine T.cond_false rfl (T.skip ?_);show T Vb 0 _ _ _;refine T.seq ?_;refine T.ops (st':=?su6) ?steps6 ?post6
  case steps6=>
   refine .av (.sl 0 0 (gL g).length) rfl rfl rfl (by kernel_rfl) ?_;refine .av (.int .i64 (v:Int)) rfl rfl rfl (by kernel_rfl) ?_;refine .va (.ptr 0 (0+v) 0) rfl rfl rfl (Du (m:=(v:Int)) rfl rfl rfl D9 (h:=nth [some (bK (U5 (gL g).length (.bool false)) 1)]) rfl rfl ⟨by omega,by omega⟩) ?_;refine .chg (v:=.unk) (blk:=bK ((U5 (gL g).length (bV false)).set (0+v) (.bool true)) 1) rfl rfl (b:=0) rfl rfl ?_ ?_
   rotate_left
   exact .nil _;exact LI (x:=.tmp 22) (y:=.const (.bool true)) (e:=.bool true) (b:=0) (i:=0+v) (j:=0) (flat:=true) (blk:=bK (U5 (gL g).length (.bool false)) 1) rfl rfl rfl rfl D6 rfl rfl rfl (show 0+v<(U5 (gL g).length (bV false)).length by rw[Uz];omega) (Uq _) rfl (fun kk c hc=>.inl (by
    match kk,hc with
    | 0,hc=>exact⟨Uq _,Nat.lt_add_one _,hc⟩)) rfl
  show T Vb 0 _ _ _;refine T.seq ?_;refine T.ops (st':=?su7) ?steps7 ?post7
  case steps7=>refine .av (.int .i64 (v:Int)) rfl rfl rfl (by kernel_rfl) ?_;refine .new (v:=.sl 1 0 1) (blk:=bK [.int .i64 (v:Int)] 1) rfl rfl (nL rfl) (F3 rfl (by kernel_rfl)) ?_;refine .av (.sl 1 0 1) rfl rfl rfl (by kernel_rfl) ?_;exact .nil _
  show T Vb 0 _ _ _;refine T.seq ?_;refine T.block ?_;refine T.ren (st':=rqS g s 0 1 1 [some (bK ((U5 (gL g).length (bV false)).set (0+v) (.bool true)) 1),some (bK [.int .i64 (v:Int)] 1)]) (Ren.keys ⟨rfl,rfl,rfl,rfl,trivial⟩) ?_;have hc0:=J8 (m:=fun _=>false) (x:=v) rfl 24;rw[Ud (by omega)] at hc0;have h0:cUn (fun _=>false) 24=24:=by decide
  have hJ0:FdJ g s v (BX (fun _=>false) v) [(v:Int)] (fun _=>False):=by
   refine⟨fun k hk=>?_,by rw[BF,Ud rfl],fun x hx=>?_,fun u hu hn _ w hw ho=>?_,?_⟩
   .rw[BF] at hk;split at hk
    .rename_i e;subst e;exact .refl hsb
    .cases hk
   .rw[T7.1 hx];exact⟨by omega,by omega,by rw[Uo,BF,Ud rfl]⟩
   .rw[BF] at hu;split at hu
    .rename_i e;subst e;exact absurd (T7.2 rfl) hn
    .cases hu
   .show 1+cUn (BX (fun _=>false) v) 24<=24;omega
  refine T.loop (fun X:RqX=>rqS g s X.i X.st.length X.b X.hp) (fun X=>RqI g X.m X.es X.st X.i X.b X.hp/\FdJ g s v X.m X.st (fun _=>False)) (fun X=>2 * cUn X.m 24+X.st.length) ⟨BX (fun _=>false) v,[.int .i64 (v:Int)],[(v:Int)],0,1,_⟩ ⟨⟨?_,rfl,Uq _,rfl,?_,Ur _⟩,hJ0⟩ ?_
  .show some _=_;rw[Rt,Q4,hlg]
  .show 1+cUn (BX (fun _=>false) v) 24<=24;omega
  rintro⟨m,es,st,i,b,hp⟩ ⟨hI,hJ⟩
  simp only at hI hJ;have hht:=RD hI;refine T.seq (T.seq ?_);refine T.ops (st':=?su8) ?steps8 ?post8
  case steps8=>refine .av (.sl b i st.length) rfl rfl rfl (by kernel_rfl) ?_;refine .av (.int .i64 (iN st.length)) rfl rfl rfl (by kernel_rfl) ?_;refine .av (.bool (decide ((0:Int)<iN st.length))) rfl rfl rfl (by kernel_rfl) ?_;exact .nil _
  show T Vb 0 _ _ _;refine T.cond_split (b:=decide ((0:Int)<iN st.length)) rfl (fun hlt=>T.skip ?_) (fun hge=>T.exit ?_)
  .have hpos:0<st.length:=by have:=of_decide_eq_true hlt;simp only[iN] at this;omega
   obtain⟨x,su1,rfl⟩:=List.exists_cons_of_length_pos hpos;have hxe:es[i+(0:Int).toNat]?=some (.int .i64 x):=by have:=congrArg (fun l:List AV=>l[0]?) hI.dr;simpa using this
   have hdr1:es.drop (i+1)=su1.map (AV.int .i64):=by have:=congrArg (U6 1) hI.dr;rw[T1] at this;simpa using this
   obtain⟨x0,x1,x2⟩:=hJ.stk x (List.mem_cons_self ..);have hxl:x.toNat<g.length:=by omega
   obtain⟨hr1,hr2⟩:=hg.row x.toNat hxl;have hgl:=Rv hxl;generalize hrr:g.getD x.toNat []=r at hgl hr1 hr2;show T Vb 0 _ _ _;refine T.block ?_;refine T.seq ?_;refine T.ops (st':=?su9) ?steps9 ?post9
   case steps9=>refine .av (.sl b i (x::su1).length) rfl rfl rfl (by kernel_rfl) ?_;refine .va (.ptr b (i+(0:Int).toNat) 0) rfl rfl rfl (Du (m:=0) rfl rfl rfl KY hI.blk rfl ⟨by omega,by omega⟩) ?_;refine .va (.int .i64 x) rfl rfl rfl (Eo rfl rfl hI.blk hxe tsz3 rfl rfl) ?_;refine .av (.int .i64 x) rfl rfl rfl (by kernel_rfl) ?_;exact .nil _
   show T Vb 0 _ _ _;refine T.seq ?_;refine T.ops (st':=?su10) ?steps10 ?post10
   case steps10=>refine .av (.sl b i (x::su1).length) rfl rfl rfl (by kernel_rfl) ?_;refine .va (.sl b (i+(1:Int).toNat) ((((x::su1).length:Nat):Int).toNat-(1:Int).toNat)) rfl rfl rfl (OY (l:=1) (u:=(((x::su1).length:Nat):Int)) (m:=(((x::su1).length:Nat):Int)) rfl rfl KY hI.blk rfl rfl rfl rfl (fun h=>by cases h) ⟨by omega,by omega,by omega,by omega⟩) ?_;refine .av (.sl b (i+(1:Int).toNat) ((((x::su1).length:Nat):Int).toNat-(1:Int).toNat)) rfl rfl rfl (by kernel_rfl) ?_;exact .nil _
   show T Vb 0 _ _ _;refine T.seq ?_;refine T.ops (st':=?su11) ?steps11 ?post11
   case steps11=>refine .av (.int .i64 0) rfl rfl rfl (by kernel_rfl) ?_;exact .nil _
   show T Vb 0 _ _ _;refine T.block ?_;refine T.ren (st':=rqJ g s (i+1) su1.length b x 0 hp) (Ren.keys ⟨rfl,rfl,rfl,(by show AV.sl b (i+1) su1.length=AV.sl b (i+(1:Int).toNat) ((((x::su1).length:Nat):Int).toNat-(1:Int).toNat);rw[Uo,UR];rfl),rfl,rfl,trivial⟩) ?_;refine T.loop (fun Y:Nat×RqX=>rqJ g s Y.2.i Y.2.st.length Y.2.b x Y.1 Y.2.hp) (fun Y=>Y.1<=r.length/\RqI g Y.2.m Y.2.es Y.2.st Y.2.i Y.2.b Y.2.hp/\FdJ g s v Y.2.m Y.2.st (fun u=>u=x.toNat)/\Y.2.m x.toNat=true/\(∀(j:Nat) (w:Int),j<Y.1->r[j]?=some w->s.getD w.toNat true=false->Y.2.m w.toNat=true)/\2 * cUn Y.2.m 24+Y.2.st.length<2 * cUn m 24+(x::su1).length) (fun Y=>r.length-Y.1) (0,⟨m,es,su1,i+1,b,hp⟩) ⟨Ur _,⟨hI.top,hI.blk,hI.pos,hdr1,hI.siz,by rw[UR] at hht;show i+1<=es.length;omega⟩,⟨hJ.sound,hJ.start,fun y hy=>hJ.stk y (Uw _ hy),fun u hu hn hex w hw ho=>?_,?_⟩,x2,fun j w hj=>absurd hj (U2 _),?_⟩ ?_
   .refine hJ.closed u hu (fun h=>?_) (fun e=>e) w hw ho;rcases UG.1 h with h | h
    .exact hex (by omega)
    .exact hn h
   .have:=hJ.size;rw[UR] at this;show su1.length+cUn m 24<=24;omega
   .show 2 * cUn m 24+su1.length<2 * cUn m 24+(x::su1).length;rw[UR];omega
   rintro⟨k,⟨m2,es2,su2,i2,b2,hp2⟩⟩ ⟨hk,hI2,hJ2,hmx,hdone,hmu⟩
   simp only at hk hI2 hJ2 hmx hdone hmu;have hht2:=RD hI2;refine T.seq (T.seq ?_);refine T.ops (st':=?su12) ?steps12 ?post12
   case steps12=>refine .av (.int .i64 (k:Int)) rfl rfl rfl (by kernel_rfl) ?_;refine .av (.lst (gL g)) rfl rfl rfl (by kernel_rfl) ?_;refine .av (.int .i64 x) rfl rfl rfl (by kernel_rfl) ?_;refine .va (.iptr [lI r]) rfl rfl rfl (CL (es:=gL g) (m:=x) (e:=lI r) rfl rfl rfl Ff (by omega) hgl rfl) ?_;refine .va (lI r) rfl rfl rfl (CZ rfl rfl EY rfl rfl) ?_;refine .av (.int .i64 (iN (r.map (AV.int .i64)).length)) rfl rfl rfl (by kernel_rfl) ?_;refine .av (.bool (decide ((k:Int)<iN (r.map (AV.int .i64)).length))) rfl rfl rfl (by kernel_rfl) ?_;exact .nil _
   show T Vb 0 _ _ _;refine T.cond_split (b:=decide ((k:Int)<iN (r.map (AV.int .i64)).length)) rfl (fun hlt1=>T.skip ?_) (fun hge1=>T.exit ?_)
   .have hkl:k<r.length:=by have:=of_decide_eq_true hlt1;simp only[iN,Ui] at this;omega
    have hwk:r[k]?=some (r.getD k 0):=Ax 0 hkl;have hwm:r.getD k 0∈r:=Uj hwk;generalize hwd:r.getD k 0=w at hwk hwm;obtain⟨w0,w1⟩:=hr2 w hwm;have hwl:w.toNat<g.length:=by omega
    have hsw:=gsA w.toNat hwl;have hmw:=OK m2 hwl;show T Vb 0 _ _ _;refine T.seq ?_;refine T.block ?_;refine T.seq ?_;refine T.ops (st':=?su13) ?steps13 ?post13
    case steps13=>refine .av (.lst (gL g)) rfl rfl rfl (by kernel_rfl) ?_;refine .av (.int .i64 x) rfl rfl rfl (by kernel_rfl) ?_;refine .va (.iptr [lI r]) rfl rfl rfl (CL (es:=gL g) (m:=x) (e:=lI r) rfl rfl rfl Ff (by omega) hgl rfl) ?_;refine .va (lI r) rfl rfl rfl (CZ rfl rfl EY rfl rfl) ?_;refine .av (.int .i64 (k:Int)) rfl rfl rfl (by kernel_rfl) ?_;refine .va (.iptr [.int .i64 w]) rfl rfl rfl (CL (es:=r.map (AV.int .i64)) (m:=(k:Int)) (e:=.int .i64 w) rfl rfl rfl KY (by omega) (by rw[Uo,Up,hwk];rfl) rfl) ?_;refine .va (.int .i64 w) rfl rfl rfl (CZ rfl rfl tsz3 rfl rfl) ?_;refine .av (.int .i64 w) rfl rfl rfl (by kernel_rfl) ?_;exact .nil _
    show T Vb 0 _ _ _;refine T.seq ?_;cases hso:s.getD w.toNat true with
    | true=>
     refine T.opsN ?_;refine .av (.lst (boL s)) rfl rfl rfl (by kernel_rfl) ?_;refine .av (.int .i64 w) rfl rfl rfl (by kernel_rfl) ?_;refine .val (v:=.iptr [.bool true]) (noG rfl) rfl (nL rfl) (CL (es:=boL s) (m:=w) (e:=.bool true) rfl rfl rfl D9 (by omega) (by rw[hsw,hso]) rfl) ?_;refine .val (v:=.bool true) (noG rfl) rfl (nL rfl) (CZ rfl rfl D6 rfl rfl) ?_;refine .av (.bool false) rfl rfl rfl (by kernel_rfl) ?_;refine .av (.bool false) rfl rfl rfl (by kernel_rfl) ?_;refine .skp (kk:=5) (g:=54) (want:=true) rfl rfl rfl rfl (nL rfl) ?_;refine .skp (kk:=5) (g:=54) (want:=true) rfl rfl rfl rfl (nL rfl) ?_;refine .skp (kk:=5) (g:=54) (want:=true) rfl rfl rfl rfl (nL rfl) ?_;refine .skp (kk:=5) (g:=54) (want:=true) rfl rfl rfl rfl (nL rfl) ?_;refine .skp (kk:=5) (g:=54) (want:=true) rfl rfl rfl rfl (nL rfl) ?_;refine .av (.bool false) rfl rfl rfl (by kernel_rfl) ?_;refine .nil ?_;show T Vb 0 _ _ _;refine T.cond_false rfl (T.skip ?_);show T Vb 0 _ _ _;refine T.ops (st':=?su14) ?steps14 ?post14
     case steps14=>refine .av (.int .i64 (k:Int)) rfl rfl rfl (by kernel_rfl) ?_;refine .av (.int .i64 (i64.wrap ((k:Int)+1))) rfl rfl rfl (by kernel_rfl) ?_;refine .av (.int .i64 (i64.wrap ((k:Int)+1))) rfl rfl rfl (by kernel_rfl) ?_;exact .nil _
     show ∃j,_;refine⟨(k+1,⟨m2,es2,su2,i2,b2,hp2⟩),Ren.keys ⟨rfl,rfl,rfl,rfl,rfl,(by show AV.int .i64 ((k+1:Nat):Int)=AV.int .i64 (i64.wrap ((k:Int)+1));rw[zW k (by omega)]),trivial⟩,⟨hkl,hI2,hJ2,hmx,fun j w' hj hw' ho=>?_,hmu⟩,by show r.length-(k+1)<r.length-k;omega⟩
     .by_cases hjk:j=k
      .subst hjk;rw[hwk] at hw';cases hw';rw[hso] at ho;cases ho
      .exact hdone j w' (by omega) hw' ho
    | false=>
     cases hmv:m2 w.toNat with
     | true=>
      rw[hmv] at hmw;refine T.opsN ?_;refine .av (.lst (boL s)) rfl rfl rfl (by kernel_rfl) ?_;refine .av (.int .i64 w) rfl rfl rfl (by kernel_rfl) ?_;refine .val (v:=.iptr [.bool false]) (noG rfl) rfl (nL rfl) (CL (es:=boL s) (m:=w) (e:=.bool false) rfl rfl rfl D9 (by omega) (by rw[hsw,hso]) rfl) ?_;refine .val (v:=.bool false) (noG rfl) rfl (nL rfl) (CZ rfl rfl D6 rfl rfl) ?_;refine .av (.bool true) rfl rfl rfl (by kernel_rfl) ?_;refine .av (.bool true) rfl rfl rfl (by kernel_rfl) ?_;refine .val (v:=.sl 0 0 (gL g).length) (isG (kk:=5) (g:=54) rfl rfl rfl) rfl (nL rfl) (BU rfl (hint:=.no) (R:={v:=.sl 0 0 (gL g).length}) (p:=True) (by kernel_rfl) trivial).1 ?_;refine .val (v:=.int .i64 w) (isG (kk:=5) (g:=54) rfl rfl rfl) rfl (nL rfl) (BU rfl (hint:=.no) (R:={v:=.int .i64 w}) (p:=True) (by kernel_rfl) trivial).1 ?_;refine .val (v:=.ptr 0 (0+w.toNat) 0) (isG (kk:=5) (g:=54) rfl rfl rfl) rfl (nL rfl) (Du (m:=w) rfl rfl rfl D9 hI2.top rfl ⟨by omega,by omega⟩) ?_;refine .val (v:=.bool true) (isG (kk:=5) (g:=54) rfl rfl rfl) rfl (nL rfl) (Eo rfl rfl hI2.top (by rw[Uu];exact hmw) D6 rfl rfl) ?_;refine .val (v:=.bool false) (isG (kk:=5) (g:=54) rfl rfl rfl) rfl (nL rfl) (BU rfl (hint:=.no) (R:={v:=.bool false}) (p:=True) (by kernel_rfl) trivial).1 ?_;refine .av (.bool false) rfl rfl rfl (by kernel_rfl) ?_;refine .nil ?_;show T Vb 0 _ _ _;refine T.cond_false rfl (T.skip ?_);show T Vb 0 _ _ _;refine T.ops (st':=?su15) ?steps15 ?post15
      case steps15=>refine .av (.int .i64 (k:Int)) rfl rfl rfl (by kernel_rfl) ?_;refine .av (.int .i64 (i64.wrap ((k:Int)+1))) rfl rfl rfl (by kernel_rfl) ?_;refine .av (.int .i64 (i64.wrap ((k:Int)+1))) rfl rfl rfl (by kernel_rfl) ?_;exact .nil _
      show ∃j,_;refine⟨(k+1,⟨m2,es2,su2,i2,b2,hp2⟩),Ren.keys ⟨rfl,rfl,rfl,rfl,rfl,(by show AV.int .i64 ((k+1:Nat):Int)=AV.int .i64 (i64.wrap ((k:Int)+1));rw[zW k (by omega)]),trivial⟩,⟨hkl,hI2,hJ2,hmx,fun j w' hj hw' ho=>?_,hmu⟩,by show r.length-(k+1)<r.length-k;omega⟩
      .by_cases hjk:j=k
       .subst hjk;rw[hwk] at hw';cases hw';exact hmv
       .exact hdone j w' (by omega) hw' ho
     | false=>
      rw[hmv] at hmw;refine T.opsN ?_;refine .av (.lst (boL s)) rfl rfl rfl (by kernel_rfl) ?_;refine .av (.int .i64 w) rfl rfl rfl (by kernel_rfl) ?_;refine .val (v:=.iptr [.bool false]) (noG rfl) rfl (nL rfl) (CL (es:=boL s) (m:=w) (e:=.bool false) rfl rfl rfl D9 (by omega) (by rw[hsw,hso]) rfl) ?_;refine .val (v:=.bool false) (noG rfl) rfl (nL rfl) (CZ rfl rfl D6 rfl rfl) ?_;refine .av (.bool true) rfl rfl rfl (by kernel_rfl) ?_;refine .av (.bool true) rfl rfl rfl (by kernel_rfl) ?_;refine .val (v:=.sl 0 0 (gL g).length) (isG (kk:=5) (g:=54) rfl rfl rfl) rfl (nL rfl) (BU rfl (hint:=.no) (R:={v:=.sl 0 0 (gL g).length}) (p:=True) (by kernel_rfl) trivial).1 ?_;refine .val (v:=.int .i64 w) (isG (kk:=5) (g:=54) rfl rfl rfl) rfl (nL rfl) (BU rfl (hint:=.no) (R:={v:=.int .i64 w}) (p:=True) (by kernel_rfl) trivial).1 ?_;refine .val (v:=.ptr 0 (0+w.toNat) 0) (isG (kk:=5) (g:=54) rfl rfl rfl) rfl (nL rfl) (Du (m:=w) rfl rfl rfl D9 hI2.top rfl ⟨by omega,by omega⟩) ?_;refine .val (v:=.bool false) (isG (kk:=5) (g:=54) rfl rfl rfl) rfl (nL rfl) (Eo rfl rfl hI2.top (by rw[Uu];exact hmw) D6 rfl rfl) ?_;refine .val (v:=.bool true) (isG (kk:=5) (g:=54) rfl rfl rfl) rfl (nL rfl) (BU rfl (hint:=.no) (R:={v:=.bool true}) (p:=True) (by kernel_rfl) trivial).1 ?_;refine .av (.bool true) rfl rfl rfl (by kernel_rfl) ?_;refine .nil ?_;show T Vb 0 _ _ _;refine T.cond_true rfl (T.seq ?_);refine T.ops (st':=?su16) ?steps16 ?post16
      case steps16=>
       refine .av (.sl 0 0 (gL g).length) rfl rfl rfl (by kernel_rfl) ?_;refine .av (.int .i64 w) rfl rfl rfl (by kernel_rfl) ?_;refine .va (.ptr 0 (0+w.toNat) 0) rfl rfl rfl (Du (m:=w) rfl rfl rfl D9 hI2.top rfl ⟨by omega,by omega⟩) ?_;refine .chg (v:=.unk) (blk:=bK ((bsA m2 g.length).set (0+w.toNat) (.bool true)) 1) rfl rfl hI2.top rfl ?_ ?_
       rotate_left
       exact .nil _;exact LI (x:=.tmp 63) (y:=.const (.bool true)) (e:=.bool true) rfl rfl hI2.top rfl D6 rfl rfl rfl (show 0+w.toNat<(bsA m2 g.length).length by rw[Gc];omega) (Uq _) rfl (fun kk c hc=>.inl (by
        match kk,hc with
        | 0,hc=>exact⟨Uq _,Nat.lt_add_one _,hc⟩)) rfl
      show T Vb 0 _ _ _;have hl2:=Dk hI2.blk;have hln1:(hp2.set 0 (some (bK ((bsA m2 g.length).set (0+w.toNat) (.bool true)) 1))).length=hp2.length:=by simp
      have hln2:((hp2.set 0 (some (bK ((bsA m2 g.length).set (0+w.toNat) (.bool true)) 1)))++[some (bK [.int .i64 w] 1)]).length=hp2.length+1:=by simp
      have hb1:nth ((hp2.set 0 (some (bK ((bsA m2 g.length).set (0+w.toNat) (.bool true)) 1)))++[some (bK [.int .i64 w] 1)]) b2=some (bK es2 1):=by rw[B5,Ud (by simp;omega),C1,Ue (fun e=>by have:=hI2.pos;omega)];exact hI2.blk
      have hb2:nth ((hp2.set 0 (some (bK ((bsA m2 g.length).set (0+w.toNat) (.bool true)) 1)))++[some (bK [.int .i64 w] 1)]) hp2.length=some (bK [.int .i64 w] 1):=by rw[B5,Ue (by simp),UL,TZ];rfl
      have hsiz:=hI2.siz;refine T.opsN ?_;refine .av (.sl b2 i2 su2.length) rfl rfl rfl (by kernel_rfl) ?_;refine .av (.int .i64 w) rfl rfl rfl (by kernel_rfl) ?_;refine .new (v:=.sl (hp2.set 0 (some (bK ((bsA m2 g.length).set (0+w.toNat) (.bool true)) 1))).length 0 1) (blk:=bK [.int .i64 w] 1) (noG rfl) rfl (nL rfl) (F3 rfl (by kernel_rfl)) ?_;refine .q (b:=b2) (i:=i2) (z:=1) (es:=es2) (src:=[.int .i64 w]) (flat:=true) rfl rfl (nL rfl) hb1 rfl (Ur _) ?_ fun es3 i3 e1 e2 e3=>?_
      .have hy:B4 (nth ((hp2.set 0 (some (bK ((bsA m2 g.length).set (0+w.toNat) (.bool true)) 1)))++[some (bK [.int .i64 w] 1)])) (.sl (hp2.set 0 (some (bK ((bsA m2 g.length).set (0+w.toNat) (.bool true)) 1))).length 0 1)=some [.int .i64 w]:=by unfold B4;simp only[hln1,hb2];rfl
       have hf:BE (nth ((hp2.set 0 (some (bK ((bsA m2 g.length).set (0+w.toNat) (.bool true)) 1)))++[some (bK [.int .i64 w] 1)])) 1 (.sl (hp2.set 0 (some (bK ((bsA m2 g.length).set (0+w.toNat) (.bool true)) 1))).length 0 1):=by unfold BE;simp only[hln1,hb2];exact⟨trivial,Uq _⟩
       have hsf:Bb (nth ((hp2.set 0 (some (bK ((bsA m2 g.length).set (0+w.toNat) (.bool true)) 1)))++[some (bK [.int .i64 w] 1)])) (.sl (hp2.set 0 (some (bK ((bsA m2 g.length).set (0+w.toNat) (.bool true)) 1))).length 0 1)=true:=by unfold Bb;simp only[hln1,hb2]
       exact Tj (x:=.tmp 64) (y:=.tmp 66) (n:=su2.length) rfl Mu rfl hb1 rfl rfl (show i2+su2.length=es2.length by have:=hI2.le;omega) hy hf (by simp) (by show es2.length+1<=_;omega) (by show(es2.length+1) * 8<=_;omega) (by show(true&&Bb _ (.sl (hp2.set 0 (some (bK ((bsA m2 g.length).set (0+w.toNat) (.bool true)) 1))).length 0 1))=true;rw[hsf];rfl)
      refine .av (.sl ((hp2.set 0 (some (bK ((bsA m2 g.length).set (0+w.toNat) (.bool true)) 1)))++[some (bK [.int .i64 w] 1)]).length i3 (es3.length-i3)) rfl rfl rfl (by kernel_rfl) ?_;refine .nil ?_;have hln3:es3.length-i3=(su2++[w]).length:=by have:=congrArg List.length e2;rw[T5,hI2.dr,Uy,Ui] at this;rw[Uy];simpa using this
      have hcu:=J8 hmv 24;rw[Ud (by omega)] at hcu;have hup:∀u,m2 u=true->BX m2 w.toNat u=true:=fun u hu=>by rw[BF];split<;>first | rfl | exact hu
      have hwx:w.toNat≠x.toNat:=fun e=>by rw[e,hmx] at hmv;cases hmv
      have hln4:(su2++[w]).length=su2.length+1:=by simp
      have hsz2:=hJ2.size;have e3':es3.length<=es2.length+1:=e3;have hJ3:FdJ g s v (BX m2 w.toNat) (su2++[w]) (fun u=>u=x.toNat):=by
       refine⟨fun u hu=>?_,hup _ hJ2.start,fun y hy=>?_,fun u hu hn hex z hz ho=>?_,by omega⟩
       .rw[BF] at hu;split at hu
        .rename_i e;subst e;exact .step (hJ2.sound _ hmx) (by rw[hrr,UE w0];exact hwm) hso
        .exact hJ2.sound u hu
       .rcases UH.1 hy with h | h
        .obtain⟨a,b,c⟩:=hJ2.stk y h;exact⟨a,b,hup _ c⟩
        .rw[T7.1 h];exact⟨w0,w1,by rw[BF,Ud rfl]⟩
       .have hne:u≠w.toNat:=fun e=>hn (by rw[e,UE w0];simp)
        rw[BF,Ue hne] at hu;exact hup _ (hJ2.closed u hu (fun h=>hn (List.mem_append_left _ h)) hex z hz ho)
      show T Vb 0 _ _ _;refine T.ops (st':=?su17) ?steps17 ?post17
      case steps17=>refine .av (.int .i64 (k:Int)) rfl rfl rfl (by kernel_rfl) ?_;refine .av (.int .i64 (i64.wrap ((k:Int)+1))) rfl rfl rfl (by kernel_rfl) ?_;refine .av (.int .i64 (i64.wrap ((k:Int)+1))) rfl rfl rfl (by kernel_rfl) ?_;exact .nil _
      show ∃j,_;refine⟨(k+1,⟨BX m2 w.toNat,es3,su2++[w],i3,((hp2.set 0 (some (bK ((bsA m2 g.length).set (0+w.toNat) (.bool true)) 1)))++[some (bK [.int .i64 w] 1)]).length,(((hp2.set 0 (some (bK ((bsA m2 g.length).set (0+w.toNat) (.bool true)) 1)))++[some (bK [.int .i64 w] 1)]).set b2 none++[some (bK es3 1)])⟩),Ren.keys ⟨rfl,rfl,rfl,(by show AV.sl ((hp2.set 0 (some (bK ((bsA m2 g.length).set (0+w.toNat) (.bool true)) 1)))++[some (bK [.int .i64 w] 1)]).length i3 (su2++[w]).length=AV.sl ((hp2.set 0 (some (bK ((bsA m2 g.length).set (0+w.toNat) (.bool true)) 1)))++[some (bK [.int .i64 w] 1)]).length i3 (es3.length-i3);rw[hln3]),rfl,(by show AV.int .i64 ((k+1:Nat):Int)=AV.int .i64 (i64.wrap ((k:Int)+1));rw[zW k (by omega)]),trivial⟩,⟨hkl,⟨?_,?_,?_,?_,?_,e1⟩,hJ3,hup _ hmx,fun j w' hj hw' ho=>?_,?_⟩,by show r.length-(k+1)<r.length-k;omega⟩
      .show nth (((hp2.set 0 (some (bK ((bsA m2 g.length).set (0+w.toNat) (.bool true)) 1)))++[some (bK [.int .i64 w] 1)]).set b2 none++[some (bK es3 1)]) 0=_;rw[B5,Ud (by simp),C1,Ue (fun e=>by have:=hI2.pos;omega),B5,Ud (by simp;omega),C1,Ud ⟨rfl,by omega⟩,Q4]
      .show nth (((hp2.set 0 (some (bK ((bsA m2 g.length).set (0+w.toNat) (.bool true)) 1)))++[some (bK [.int .i64 w] 1)]).set b2 none++[some (bK es3 1)]) ((hp2.set 0 (some (bK ((bsA m2 g.length).set (0+w.toNat) (.bool true)) 1)))++[some (bK [.int .i64 w] 1)]).length=_;rw[B5,Ue (by simp),UL,TZ];rfl
      .show 1<=((hp2.set 0 (some (bK ((bsA m2 g.length).set (0+w.toNat) (.bool true)) 1)))++[some (bK [.int .i64 w] 1)]).length;rw[hln2];omega
      .show es3.drop i3=(su2++[w]).map (AV.int .i64);rw[e2,hI2.dr,Us];rfl
      .show es3.length+cUn (BX m2 w.toNat) 24<=24;omega
      .by_cases hjk:j=k
       .subst hjk;rw[hwk] at hw';cases hw';show BX m2 w.toNat w.toNat=true;rw[BF,Ud rfl]
       .exact hup _ (hdone j w' (by omega) hw' ho)
      .show 2 * cUn (BX m2 w.toNat) 24+(su2++[w]).length<_;omega
   .have hke:k=r.length:=by have:=of_decide_eq_false hge1;simp only[iN,Ui] at this;omega
    simp only[andThen,Co,↓reduceIte];show ∃j,_;refine⟨⟨m2,es2,su2,i2,b2,hp2⟩,Ren.keys ⟨rfl,rfl,rfl,rfl,trivial⟩,⟨hI2,⟨hJ2.sound,hJ2.start,hJ2.stk,fun u hu hn _ w hw ho=>?_,hJ2.size⟩⟩,hmu⟩
    .by_cases hux:u=x.toNat
     .subst hux;rw[hrr] at hw;obtain⟨j,hj⟩:=List.getElem?_of_mem hw;have hjl:=(Uh.1 hj).1;have:=hdone j _ (by omega) hj (by simpa using ho);simpa using this
     .exact hJ2.closed u hu hn hux w hw ho
  .have h0:st=[]:=by refine List.eq_nil_of_length_eq_zero ?_;have:=of_decide_eq_false hge;simp only[iN] at this;omega
   subst h0;simp only[andThen,Co,↓reduceIte];show T Vb 0 _ _ _;refine T.seq ?_;refine T.ops (st':=?su18) ?steps18 ?post18
   case steps18=>refine .av (.sl 0 0 (gL g).length) rfl rfl rfl (by kernel_rfl) ?_;refine .av (.sl 0 0 (gL g).length) rfl rfl rfl (by kernel_rfl) ?_;exact .nil _
   show T Vb 0 _ _ _;refine T.ret ?_;have hend:=NR hJ;refine⟨.inr rfl,.sl 0 0 (gL g).length,⟨Tryz.f161.ntmps,[(0,.lst (bsA (mkB g s v) g.length))],[]⟩,rfl,PL (by rw[<-hend];exact hI.top) (by rw[Gc,hlg]),rfl,rfl,(nL rfl)⟩
end Go.Proofs.YthjgbnbibebigaaGreat
set_option maxHeartbeats 4000000
namespace Go.Proofs.YthjgbnbibebigaaGreat
def OO(g:List (List Int))(sh:List Bool):Option (Empty⊕Ret):=gu (VG g) <|br (iN (boL sh).length != iN (gL g).length) (some (.inr ([],iV 19))) (some (.inr ([],iV 0)))
theorem chx_ct(g:List (List Int))(sh:List Bool)(r:Ret)(h:Ac emT (OO g sh) r):CT Vb 145 ([]) ([.lst (gL g),.lst (boL sh)]) r.1 r.2:=
 CT.mach (fn:=Tryz.f145) (c:=zB Tryz.f145) (S:=emS) (hd:=emH) Tryz.func145 (by kernel_rfl) (nL rfl)
  (fun s o ho=>match s,ho with
   | x,_=>x.elim)
  (fun o ho=>Scr.ok (X:=OO g sh) ho mix (
 .rn 0 [] [] [] [] s2 <|
 .gu fun a0=>
 have c0:=vld_v a0;
 .rn 1 [] [] [(6,hK c0 [] [])] [] (aj (u2 (aj (k2 (al (c0))) s2)) (ak (al (u2 (u2 (u2 (u2 (al t3)))))))) <|
 .br (fun a1=>
 .rt [25] [] [] [] [] [] (aj (aj a1 s2) t2))
 (fun a1=>
 .rt [24] [] [] [] [] [] (aj (aj a1 s2) t2))) (by kernel_rfl)) h
theorem fd_m{g:List (List Int)}{s:List Bool}{q:Int}(hg:GOk g)(hs:s.length=g.length)(hq:0<=q/\q<(g.length:Int)):CT Vb 98 [] [.lst (gL g),.lst (boL s),.int .i64 q] [] (.agg [.bool (mkB g s q.toNat 0),.bool (mkB g s q.toNat 1),.bool (mkB g s q.toNat 2),.bool (mkB g s q.toNat 3),.bool (mkB g s q.toNat 4),.bool (mkB g s q.toNat 5),.bool (mkB g s q.toNat 6),.bool (mkB g s q.toNat 7),.bool (mkB g s q.toNat 8),.bool (mkB g s q.toNat 9),.bool (mkB g s q.toNat 10),.bool (mkB g s q.toNat 11),.bool (mkB g s q.toNat 12),.bool (mkB g s q.toNat 13),.bool (mkB g s q.toNat 14),.bool (mkB g s q.toNat 15),.bool (mkB g s q.toNat 16),.bool (mkB g s q.toNat 17),.bool (mkB g s q.toNat 18),.bool (mkB g s q.toNat 19),.bool (mkB g s q.toNat 20),.bool (mkB g s q.toNat 21),.bool (mkB g s q.toNat 22),.bool (mkB g s q.toNat 23)]):=fd_c hg hs q hq
def rcL(g:List (List Int))(s:List Bool)(q:Int):List Bool:=(List.range g.length).map (mkB g s q.toNat)
theorem reach_m{g:List (List Int)}{s:List Bool}{q:Int}(hg:GOk g)(hs:s.length=g.length)(hq:0<=q/\q<(g.length:Int)):CT Vb 161 [] [.lst (gL g),.lst (boL s),.int .i64 q] [] (.lst (boL (rcL g s q))):=by obtain⟨v,rfl⟩:∃v:Nat,q=v:=⟨q.toNat,by omega⟩;have:=reach_ct hg hs (v:=v) (by omega);unfold rcL;rw[Uo];exact this
theorem check4_x{g:List (List Int)}(s:List Bool)(hrw:VG g):CT Vb 145 [] [.lst (gL g),.lst (boL s)] [] (.int .i64 (CE g s)):=by
 refine chx_ct g s ([],_) (.val ?_);unfold OO CE;rw[Ab hrw,Ud (Px.2 hrw),A9,BZ];by_cases h:s.length=g.length
 .rw[Ad (by rw[h];simp),Ue (by simp[h])]
 .rw[Ag (UZ.2 (by simp only[iN];omega)),Ud h]
def MY(n:Aa)(sp:Int):Option (Empty⊕Ret):=gu (RwV n) <|br (!A8 n) (some (.inr ([],iV 20))) (br (decide (sp<0)) (some (.inr ([],iV 19))) (br (decide (iN (U4 sA n.ss).length<=sp)) (some (.inr ([],iV 19))) (some (.inr ([],iV 0)))))
theorem ckS_ct(n:Aa)(sp:Int)(r:Ret)(h:Ac emT (MY n sp) r):CT Vb 128 ([]) ([Ai n,.int .i64 sp]) r.1 r.2:=
 CT.mach (fn:=Tryz.f128) (c:=zB Tryz.f128) (S:=emS) (hd:=emH) Tryz.func128 (by kernel_rfl) (nL rfl)
  (fun s o ho=>match s,ho with
   | x,_=>x.elim)
  (fun o ho=>Scr.ok (X:=MY n sp) ho mix (
 .rn 0 [] [] [] [] (al (u2 t2)) <|
 .gu fun a0=>
 have c0:=F0 a0;
 .rn 0 [] [] [(7,hK c0 [] [])] [] (al (u2 (aj (ak (aj t9 (al (c0)))) (u2 s2)))) <|
 .br (fun a1=>
 .rt [11] [] [] [] [] [] (aj (aj a1 s2) t2))
 (fun a1=>
 .br (fun a2=>
  .rt [10,25] [] [] [] [] [] (aj (aj a1 (aj (u2 (u2 (u2 (aj a2 (aj a2 (aj a2 (aj a2 (aj a2 (ag a2 s2))))))))) (ak s2))) t2))
 (fun a2=>
  .rn 0 [10,24] [] [] [] (aj a1 (al (u2 (u2 (u2 (ag a2 (ag a2 (ag a2 (ag a2 (aj (aj a2 t3) (ag a2 s2))))))))))) <|
  .br (fun a3=>
  .rt [24,19] [] [] [] [] [] (aj (aj a3 s2) t2))
  (fun a3=>
  .rt [24,18] [] [] [] [] [] (aj (aj a3 s2) t2))))) (by kernel_rfl)) h
def My(n:Aa):Option (Empty⊕Ret):=gu (RwV n) <|br (!A8 n) (some (.inr ([],AV.tup [iV 0,iV 20]))) (gu (Aq n) <|some (.inr ([],AV.tup [iV (iN (Al n)),iV 0])))
theorem cnt_ct(n:Aa)(r:Ret)(h:Ac emT (My n) r):CT Vb 96 ([]) ([Ai n]) r.1 r.2:=
 CT.mach (fn:=Tryz.f96) (c:=zB Tryz.f96) (S:=emS) (hd:=emH) Tryz.func96 (by kernel_rfl) (nL rfl)
  (fun s o ho=>match s,ho with
   | x,_=>x.elim)
  (fun o ho=>Scr.ok (X:=My n) ho mix (
 .rn 0 [] [] [] [] (al (u2 t3)) <|
 .gu fun a0=>
 have c0:=F0 a0;
 .rn 0 [] [] [(5,hK c0 [] [])] [] (al (u2 (aj (ak (aj t9 (al (c0)))) s2))) <|
 .br (fun a1=>
 .rt [13] [] [] [] [] [] (aj (aj a1 (al t3)) (al t3)))
 (fun a1=>
 .gu fun a2=>
 have c1:=NW a2;
 .rt [12] [] [(8,hK c1 [] [])] [] [] [] (aj (aj a1 (al (u2 (aj (ak (aj t9 (al (c1)))) (u2 t2))))) (al t3)))) (by kernel_rfl)) h
def csE(n:Aa)(sp:Int):Int:=if A8 n=true then (if sp<0\/(n.ss.length:Int)<=sp then 19 else 0) else 20
theorem SK{n:Aa}(hrw:RwV n)(sp:Int):CT Vb 128 [] [Ai n,.int .i64 sp] [] (.int .i64 (csE n sp)):=by
 refine ckS_ct n sp ([],_) (.val ?_);unfold MY csE;rw[Ab hrw];cases hv:A8 n with
 | false=>rfl
 | true=>
  rw[Ad (by rfl),Ud rfl];by_cases h0:sp<0
  .rw[Ag (AB h0),Ud (.inl h0)]
  by_cases h1:(n.ss.length:Int)<=sp
  .rw[Ad (AA h0),Ag (AB (by simpa [iN] using h1)),Ud (.inr h1)]
  .rw[Ad (AA h0),Ad (AA (by simpa [iN] using h1)),Ue (by omega)]
def Bi(n:Aa):Int:=if A8 n=true then (Al n:Int) else 0
def Cr(n:Aa):Int:=if A8 n=true then 0 else 20
theorem Lm{n:Aa}(hrw:RwV n):CT Vb 96 [] [Ai n] [] (.tup [.int .i64 (Bi n),.int .i64 (Cr n)]):=by
 refine cnt_ct n ([],_) (.val ?_);unfold My Bi Cr;rw[Ab hrw];cases hv:A8 n with
 | false=>rfl
 | true=>rw[Ad (by rfl),Ab (BD.1 hv)];rfl
theorem csE_zero{n:Aa}{sp:Int}(h:csE n sp=0):Aq n/\0<=sp/\sp<n.ss.length:=by
 unfold csE at h;split at h
 .rename_i hv;split at h
  .omega
  .exact⟨BD.1 hv,by omega,by omega⟩
 .omega
inductive EK where | l0 (v0:Int) | l1 (v0:Int) (v1 v2 v3 v4 v5 v6 v7 v8 v9 v10 v11 v12 v13 v14 v15 v16 v17 v18 v19 v20 v21 v22 v23 v24 v25 v26 v27 v28 v29 v30 v31 v32 v33 v34 v35 v36 v37 v38 v39 v40 v41 v42 v43 v44 v45 v46 v47 v48:Bool)
def mutSt(g:List (List Int))(sh:List Bool):EK->St | .l0 v0=>St.mk 66 [(0,Va (gL g)),(1,Va (boL sh)),(6,Va (gL (rvO g))),(27,Va (boL sh)),(28,iv (iN (boL sh).length)),(29,iv v0)] [] | .l1 v0 v1 v2 v3 v4 v5 v6 v7 v8 v9 v10 v11 v12 v13 v14 v15 v16 v17 v18 v19 v20 v21 v22 v23 v24 v25 v26 v27 v28 v29 v30 v31 v32 v33 v34 v35 v36 v37 v38 v39 v40 v41 v42 v43 v44 v45 v46 v47 v48=>St.mk 66 [(10,AV.ptr 0 0 0),(11,AV.ptr 1 0 0),(43,Va (boL sh)),(44,iv (iN (boL sh).length)),(45,iv v0)] [some (bK [AV.agg [bV v1,bV v2,bV v3,bV v4,bV v5,bV v6,bV v7,bV v8,bV v9,bV v10,bV v11,bV v12,bV v13,bV v14,bV v15,bV v16,bV v17,bV v18,bV v19,bV v20,bV v21,bV v22,bV v23,bV v24]] 24),some (bK [AV.agg [bV v25,bV v26,bV v27,bV v28,bV v29,bV v30,bV v31,bV v32,bV v33,bV v34,bV v35,bV v36,bV v37,bV v38,bV v39,bV v40,bV v41,bV v42,bV v43,bV v44,bV v45,bV v46,bV v47,bV v48]] 24)]
def Nx(g:List (List Int))(sh:List Bool):Option (EK⊕Ret):=gu (VG g) <|br (rvE g != 0) (some (.inr ([],AV.tup [bV false,iV (rvE g)]))) (br (iN (boL sh).length != iN (gL g).length) (some (.inr ([],AV.tup [bV false,iV 19]))) (some (.inl (.l0 ((0:Int))))))
def EF(g:List (List Int))(sh:List Bool)(v0:Int):Option (EK⊕Ret):=br (decide (v0<iN (boL sh).length)) (gu (0<=v0) <|el (sh) (v0.toNat) fun(x32:Bool)=>br x32 (some (.inl (.l0 (i64.wrap (v0+1))))) (gu (GOk g) <|gu (sh.length=g.length) <|gu (0<=v0/\v0<iN g.length) <|gu (GOk (rvO g)) <|gu (sh.length=(rvO g).length) <|gu (0<=v0/\v0<iN (rvO g).length) <|some (.inl (.l1 ((0:Int)) (mkB g sh v0.toNat 0) (mkB g sh v0.toNat 1) (mkB g sh v0.toNat 2) (mkB g sh v0.toNat 3) (mkB g sh v0.toNat 4) (mkB g sh v0.toNat 5) (mkB g sh v0.toNat 6) (mkB g sh v0.toNat 7) (mkB g sh v0.toNat 8) (mkB g sh v0.toNat 9) (mkB g sh v0.toNat 10) (mkB g sh v0.toNat 11) (mkB g sh v0.toNat 12) (mkB g sh v0.toNat 13) (mkB g sh v0.toNat 14) (mkB g sh v0.toNat 15) (mkB g sh v0.toNat 16) (mkB g sh v0.toNat 17) (mkB g sh v0.toNat 18) (mkB g sh v0.toNat 19) (mkB g sh v0.toNat 20) (mkB g sh v0.toNat 21) (mkB g sh v0.toNat 22) (mkB g sh v0.toNat 23) (mkB (rvO g) sh v0.toNat 0) (mkB (rvO g) sh v0.toNat 1) (mkB (rvO g) sh v0.toNat 2) (mkB (rvO g) sh v0.toNat 3) (mkB (rvO g) sh v0.toNat 4) (mkB (rvO g) sh v0.toNat 5) (mkB (rvO g) sh v0.toNat 6) (mkB (rvO g) sh v0.toNat 7) (mkB (rvO g) sh v0.toNat 8) (mkB (rvO g) sh v0.toNat 9) (mkB (rvO g) sh v0.toNat 10) (mkB (rvO g) sh v0.toNat 11) (mkB (rvO g) sh v0.toNat 12) (mkB (rvO g) sh v0.toNat 13) (mkB (rvO g) sh v0.toNat 14) (mkB (rvO g) sh v0.toNat 15) (mkB (rvO g) sh v0.toNat 16) (mkB (rvO g) sh v0.toNat 17) (mkB (rvO g) sh v0.toNat 18) (mkB (rvO g) sh v0.toNat 19) (mkB (rvO g) sh v0.toNat 20) (mkB (rvO g) sh v0.toNat 21) (mkB (rvO g) sh v0.toNat 22) (mkB (rvO g) sh v0.toNat 23))))) (some (.inr ([],AV.tup [bV false,iV 0])))
def CG(g:List (List Int))(sh:List Bool)(v0:Int)(v1 v2 v3 v4 v5 v6 v7 v8 v9 v10 v11 v12 v13 v14 v15 v16 v17 v18 v19 v20 v21 v22 v23 v24 v25 v26 v27 v28 v29 v30 v31 v32 v33 v34 v35 v36 v37 v38 v39 v40 v41 v42 v43 v44 v45 v46 v47 v48:Bool):Option (EK⊕Ret):=br (decide (v0<iN (boL sh).length)) (gu (0<=v0) <|el (sh) (v0.toNat) fun(x48:Bool)=>br (!x48) (gu (v0<24) <|el ([v1,v2,v3,v4,v5,v6,v7,v8,v9,v10,v11,v12,v13,v14,v15,v16,v17,v18,v19,v20,v21,v22,v23,v24]) (0+v0.toNat * 1) fun(x55:Bool)=>br (!x55) (some (.inr ([],AV.tup [bV false,iV 0]))) (el ([v25,v26,v27,v28,v29,v30,v31,v32,v33,v34,v35,v36,v37,v38,v39,v40,v41,v42,v43,v44,v45,v46,v47,v48]) (0+v0.toNat * 1) fun(x60:Bool)=>br (!x60) (some (.inr ([],AV.tup [bV false,iV 0]))) (some (.inl (.l1 (i64.wrap (v0+1)) v1 v2 v3 v4 v5 v6 v7 v8 v9 v10 v11 v12 v13 v14 v15 v16 v17 v18 v19 v20 v21 v22 v23 v24 v25 v26 v27 v28 v29 v30 v31 v32 v33 v34 v35 v36 v37 v38 v39 v40 v41 v42 v43 v44 v45 v46 v47 v48))))) (some (.inl (.l1 (i64.wrap (v0+1)) v1 v2 v3 v4 v5 v6 v7 v8 v9 v10 v11 v12 v13 v14 v15 v16 v17 v18 v19 v20 v21 v22 v23 v24 v25 v26 v27 v28 v29 v30 v31 v32 v33 v34 v35 v36 v37 v38 v39 v40 v41 v42 v43 v44 v45 v46 v47 v48)))) (some (.inr ([],AV.tup [bV true,iV 0])))
def L7(g:List (List Int))(sh:List Bool):EK->Option (EK⊕Ret) | .l0 v0=>EF g sh v0 | .l1 v0 v1 v2 v3 v4 v5 v6 v7 v8 v9 v10 v11 v12 v13 v14 v15 v16 v17 v18 v19 v20 v21 v22 v23 v24 v25 v26 v27 v28 v29 v30 v31 v32 v33 v34 v35 v36 v37 v38 v39 v40 v41 v42 v43 v44 v45 v46 v47 v48=>CG g sh v0 v1 v2 v3 v4 v5 v6 v7 v8 v9 v10 v11 v12 v13 v14 v15 v16 v17 v18 v19 v20 v21 v22 v23 v24 v25 v26 v27 v28 v29 v30 v31 v32 v33 v34 v35 v36 v37 v38 v39 v40 v41 v42 v43 v44 v45 v46 v47 v48
theorem mut_ct(g:List (List Int))(sh:List Bool)(r:Ret)(h:Ac (L7 g sh) (Nx g sh) r):CT Vb 48 ([]) ([.lst (gL g),.lst (boL sh)]) r.1 r.2:=
 CT.mach (fn:=Tryz.f48) (c:=zB Tryz.f48) (S:=(mutSt g sh)) (hd:=EK.ctorIdx) Tryz.func48 (by kernel_rfl) (nL rfl)
  (fun s o ho=>match s,ho with
 | .l0 v0,ho=>Scr.ok (X:=EF g sh v0) ho mix (
 .rn 0 [] [] [] [] (al (al t3)) <|
 .br (fun a0=>
 .gu fun a1=>
 .el fun x32 a2=>
 .rn 1 [61] [(32,bV x32)] [] [] (aj a0 (aj (u2 (aj (k2 (aj a1 (Af (f:=bV) a2))) (u2 (u2 s2)))) (al s2))) <|
 .br (fun a3=>
  .lp [69] [] [] [] [] [] [0,1,6,27,28,29] (aj (aj a3 (al (u2 s2))) t7))
 (fun a3=>
  .gu fun a4=>
  .gu fun a5=>
  .gu fun a6=>
  .gu fun a7=>
  .gu fun a8=>
  .gu fun a9=>
  have c0:=fd_m a4 a5 a6;
  have c1:=fd_m a7 a8 a9;
  .lp [68] [] [(38,hK c0 [] []),(42,hK c1 [] [])] [] [] [0,1] [10,11,43,44,45] (aj (aj a3 (aj (u2 (u2 (u2 (aj (ak (k5 (al (c0)))) (u2 (u2 (u2 (aj (ak (k5 (al (c1)))) (k2 (aj (k2 n11) (al (k2 n11)))))))))))) (al (u2 (u2 t2))))) t8)))
 (fun a0=>
 .rt [60] [] [] [] [] [] (aj (aj a0 (al t3)) (al t3)))) (by kernel_rfl)
 | .l1 v0 v1 v2 v3 v4 v5 v6 v7 v8 v9 v10 v11 v12 v13 v14 v15 v16 v17 v18 v19 v20 v21 v22 v23 v24 v25 v26 v27 v28 v29 v30 v31 v32 v33 v34 v35 v36 v37 v38 v39 v40 v41 v42 v43 v44 v45 v46 v47 v48,ho=>Scr.ok (X:=CG g sh v0 v1 v2 v3 v4 v5 v6 v7 v8 v9 v10 v11 v12 v13 v14 v15 v16 v17 v18 v19 v20 v21 v22 v23 v24 v25 v26 v27 v28 v29 v30 v31 v32 v33 v34 v35 v36 v37 v38 v39 v40 v41 v42 v43 v44 v45 v46 v47 v48) ho mix (
 .rn 0 [] [] [] [] (al (al t3)) <|
 .br (fun a0=>
 .gu fun a1=>
 .el fun x48 a2=>
 .rn 0 [93] [(48,bV x48)] [] [] (aj a0 (al (u2 (aj (k2 (aj a1 (Af (f:=bV) a2))) (u2 (u2 s2)))))) <|
 .br (fun a3=>
  .gu fun a4=>
  .el fun x55 a5=>
  .br (fun a6=>
  .rt [105,115] [(55,AV.tup [bV x55])] [] [] [] [] (aj (aj (u2 (u2 (u2 (ag a3 (aj (aj a3 (k2 (aj a1 a4))) (aj (aj a3 (ak (Af (f:=bV) a5))) (ag a3 (ag a3 (aj a6 (aj a6 (aj a6 (aj a6 (aj (aj a3 (aj a6 t2)) (al (aj a3 t2))))))))))))))) (ak (al t3))) (al t3)))
  (fun a6=>
  .el fun x60 a7=>
  .rn 0 [105,114] [(55,AV.tup [bV x55]),(60,AV.tup [bV x60])] [] [] (al (u2 (u2 (u2 (ag a3 (aj (aj a3 (k2 (aj a1 a4))) (aj (aj a3 (ak (Af (f:=bV) a5))) (ag a3 (ag a3 (ag a6 (aj (aj a6 (k2 (aj a1 a4))) (aj (aj a6 (ak (Af (f:=bV) a7))) (ag a6 (aj (aj a3 (aj a6 t2)) (al (aj a3 t2)))))))))))))))) <|
  .br (fun a8=>
   .rt [105,114,127] [] [] [] [] [] (aj (aj a8 (al t3)) (al t3)))
  (fun a8=>
   .lp [105,114,126] [] [] [] [] [0,1] [10,11,43,44,45] (aj (aj a8 (al (u2 s2))) t8))))
 (fun a3=>
  .lp [104] [] [] [] [] [0,1] [10,11,43,44,45] (aj (aj (u2 (u2 (u2 (aj a3 (aj a3 (aj a3 (aj a3 (aj a3 (ak (k3 (aj a3 (al (aj a3 t2))))))))))))) (ak (al (u2 s2)))) t8)))
 (fun a0=>
 .rt [92] [] [] [] [] [] (aj (aj a0 (al t3)) (al t3)))) (by kernel_rfl)
  )
  (fun o ho=>Scr.ok (X:=Nx g sh) ho mix (
 .rn 0 [] [] [] [] (al t3) <|
 .gu fun a0=>
 have c0:=rev_c a0;
 .rn 1 [] [] [(16,hK c0 [] [])] [] (aj (u2 (aj (k2 (al (c0))) (u2 (u2 (u2 (u2 s2)))))) (al (u2 s2))) <|
 .br (fun a1=>
 .rt [41] [] [] [] [] [] (aj (aj a1 (al (u2 (ak s2)))) (al t3)))
 (fun a1=>
 .rn 0 [40] [] [] [] (aj a1 (al (u2 (u2 (u2 (u2 (al t3))))))) <|
 .br (fun a2=>
  .rt [53] [] [] [] [] [] (aj (aj a2 (al t3)) (al t3)))
 (fun a2=>
  .lp [52] [] [] [] [] [] [0,1,6,27,28,29] (aj (aj a2 (al (u2 (u2 t2)))) t7)))) (by kernel_rfl)) h
inductive FC where | l0 (v0 v1:Int) | l1 (v0 v1:Int) (v2:List Bool) (v3:Int)
def rmuSt(g:List (List Int))(sh:List Bool):FC->St | .l0 v0 v1=>St.mk 53 [(0,Va (gL g)),(1,Va (boL sh)),(7,iv v0),(8,iv v1)] [] | .l1 v0 v1 v2 v3=>St.mk 53 [(0,Va (gL g)),(1,Va (boL sh)),(7,iv v0),(8,iv v1),(9,Va (U4 bV v2)),(10,iv v3)] []
def NN(g:List (List Int))(sh:List Bool):Option (FC⊕Ret):=gu (VG g) <|br (CE g sh != 0) (some (.inr ([],AV.tup [bV false,iV (CE g sh)]))) (some (.inl (.l0 ((0:Int)) ((0:Int)))))
def EQ(g:List (List Int))(sh:List Bool)(v0 v1:Int):Option (FC⊕Ret):=br (decide (v1<iN (gL g).length)) (gu (0<=v1) <|el (sh) (v1.toNat) fun(x25:Bool)=>br x25 (some (.inl (.l0 v0 (i64.wrap (v1+1))))) (gu (GOk g) <|gu (sh.length=g.length) <|gu (0<=v1/\v1<iN g.length) <|some (.inl (.l1 (i64.wrap (v0+1)) v1 (rcL g sh v1) ((0:Int)))))) (some (.inr ([],AV.tup [bV (decide (0<v0)),iV 0])))
def Dj(g:List (List Int))(sh:List Bool)(v0 v1:Int)(v2:List Bool)(v3:Int):Option (FC⊕Ret):=br (decide (v3<iN (gL g).length)) (gu (0<=v3) <|el (sh) (v3.toNat) fun(x41:Bool)=>br (!x41) (el v2 (v3.toNat) fun(x47:Bool)=>br (!x47) (some (.inr ([],AV.tup [bV false,iV 0]))) (some (.inl (.l1 v0 v1 v2 (i64.wrap (v3+1)))))) (some (.inl (.l1 v0 v1 v2 (i64.wrap (v3+1)))))) (some (.inl (.l0 v0 (i64.wrap (v1+1)))))
def MQ(g:List (List Int))(sh:List Bool):FC->Option (FC⊕Ret) | .l0 v0 v1=>EQ g sh v0 v1 | .l1 v0 v1 v2 v3=>Dj g sh v0 v1 v2 v3
theorem rmu_ct(g:List (List Int))(sh:List Bool)(r:Ret)(h:Ac (MQ g sh) (NN g sh) r):CT Vb 148 ([]) ([.lst (gL g),.lst (boL sh)]) r.1 r.2:=
 CT.mach (fn:=Tryz.f148) (c:=zB Tryz.f148) (S:=(rmuSt g sh)) (hd:=FC.ctorIdx) Tryz.func148 (by kernel_rfl) (nL rfl)
  (fun s o ho=>match s,ho with
 | .l0 v0 v1,ho=>Scr.ok (X:=EQ g sh v0 v1) ho mix (
 .rn 0 [] [] [] [] (al (u2 (u2 (u2 (al t3))))) <|
 .br (fun a0=>
 .gu fun a1=>
 .el fun x25 a2=>
 .rn 0 [41] [(25,bV x25)] [] [] (aj a0 (al (u2 (u2 (aj (k2 (aj a1 (Af (f:=bV) a2))) s2))))) <|
 .br (fun a3=>
  .lp [53] [] [] [] [] [] [0,1,7,8] (aj (aj a3 (al (u2 (u2 s2)))) t5))
 (fun a3=>
  .rn 0 [52] [] [] [] (aj a3 (al (u2 (u2 s2)))) <|
  .gu fun a4=>
  .gu fun a5=>
  .gu fun a6=>
  have c0:=reach_m a4 a5 a6;
  .lp [] [] [(32,hK c0 [] [])] [] [] [] [0,1,7,8,9,10] (aj (aj (u2 (u2 (u2 (aj (ak (k5 (al (c0)))) s2)))) s2) t7)))
 (fun a0=>
 .rt [40] [] [] [] [] [] (aj (aj a0 (al (u2 (u2 (u2 t2))))) (al t3)))) (by kernel_rfl)
 | .l1 v0 v1 v2 v3,ho=>Scr.ok (X:=Dj g sh v0 v1 v2 v3) ho mix (
 .rn 0 [] [] [] [] (al (u2 (u2 (u2 (al t3))))) <|
 .br (fun a0=>
 .gu fun a1=>
 .el fun x41 a2=>
 .br (fun a3=>
  .el fun x47 a4=>
  .rn 0 [73,89] [(41,bV x41),(47,bV x47)] [] [] (aj a0 (al (u2 (u2 (aj (k2 (aj a1 (Af (f:=bV) a2))) (u2 (u2 (u2 (ag a3 (ag a3 (aj (aj a3 (k2 (aj a1 (Af (f:=bV) a4)))) (ag a3 (ag a3 (al (aj a3 t2))))))))))))))) <|
  .br (fun a5=>
  .rt [89,101] [] [] [] [] [] (aj (aj a5 (al t3)) (al t3)))
  (fun a5=>
  .lp [89,100] [] [] [] [] [] [0,1,7,8,9,10] (aj (aj a5 (al (u2 (u2 s2)))) t7)))
 (fun a3=>
  .lp [73,88] [(41,bV x41)] [] [] [] [] [0,1,7,8,9,10] (aj (aj a0 (aj (u2 (u2 (aj (k2 (aj a1 (Af (f:=bV) a2))) (u2 (u2 (u2 (aj a3 (aj a3 (aj a3 (aj a3 (aj a3 (al (aj a3 t2))))))))))))) (ak (al (u2 (u2 s2)))))) t7)))
 (fun a0=>
 .lp [72] [] [] [] [] [] [0,1,7,8] (aj (aj a0 (al (u2 (u2 s2)))) t5))) (by kernel_rfl)
  )
  (fun o ho=>Scr.ok (X:=NN g sh) ho mix (
 .rn 0 [] [] [] [] (al t3) <|
 .gu fun a0=>
 have c0:=check4_x (sh) a0;
 .rn 1 [] [] [(13,hK c0 [] [])] [] (aj (u2 (u2 (aj (ak (k3 (al (c0)))) s2))) (al (u2 s2))) <|
 .br (fun a1=>
 .rt [31] [] [] [] [] [] (aj (aj a1 (al (u2 (ak s2)))) (al t3)))
 (fun a1=>
 .lp [30] [] [] [] [] [] [0,1,7,8] (aj (aj a1 (u2 s2)) t5))) (by kernel_rfl)) h
theorem Rcv.open1{g:List (List Int)}{s:List Bool}{v k:Nat}(h:Rcv g s v k):s.getD v true=false:=by
 induction h with
 | refl h=>exact h
 | step _ _ _ ih=>exact ih
theorem Rcv.trans{g:List (List Int)}{s:List Bool}{a b c:Nat}(h:Rcv g s a b)(k:Rcv g s b c):Rcv g s a c:=by
 induction k with
 | refl _=>exact h
 | step _ hw ho ih=>exact .step ih hw ho
theorem SN(v:Nat):∀(l:List Int) (R:List (List Int)) (w:Nat) (y:Int),(∀z∈l,0<=z/\z<(R.length:Int))->(y∈(l.foldl (B2 v) R).getD w []↔y∈R.getD w []\/(y=(v:Int)/\(w:Int)∈l)):=by
 intro l;induction l with
 | nil=>intro R w y _;simp
 | cons x l ih=>
  intro R w y hl;rw[List.foldl_cons,ih _ _ _ (fun z hz=>by rw[PR];exact hl z (Uw _ hz))];obtain⟨x0,x1⟩:=hl x (List.mem_cons_self ..);have e:(B2 v R x).getD w []=if x.toNat=w then R.getD w []++[(v:Int)] else R.getD w []:=by
   unfold B2;rw[Ug,U1];by_cases hx:x.toNat=w
   .subst hx;rw[Ud rfl,Ud (by omega),Ud rfl];rfl
   .rw[Ue hx,Ue hx,<-Ug]
  rw[e,UG];by_cases hx:x.toNat=w
  .have hwx:(w:Int)=x:=by omega
   rw[Ud hx,UH,T7];constructor
   .rintro((h | h) | ⟨h1,h2⟩)
    .exact .inl h
    .exact .inr ⟨h,.inl hwx⟩
    .exact .inr ⟨h1,.inr h2⟩
   .rintro(h | ⟨h1,h2⟩)
    .exact .inl (.inl h)
    .exact .inl (.inr h1)
  .have hwx:(w:Int)≠x:=by omega
   rw[Ue hx];constructor
   .rintro(h | ⟨h1,h2⟩)
    .exact .inl h
    .exact .inr ⟨h1,.inr h2⟩
   .rintro(h | ⟨h1,h2⟩)
    .exact .inl h
    .rcases h2 with h2 | h2
     .exact absurd h2 hwx
     .exact .inr ⟨h1,h2⟩
theorem revI_mem{g:List (List Int)}(hr:∀v,v<g.length->∀w∈g.getD v [],0<=w/\w<(g.length:Int))(w:Nat)(y:Int):∀i,i<=g.length->(y∈(BO g i).getD w []↔∃x:Nat,x<i/\y=(x:Int)/\(w:Int)∈g.getD x []):=by
 intro i;induction i with
 | zero=>
  intro _;have:(BO g 0).getD w []=[]:=by unfold BO;rw[List.range_zero,List.foldl_nil,Ug,UD];split<;>rfl
  rw[this];constructor
  .intro h;cases h
  .rintro⟨x,h,_⟩;exact absurd h (U2 _)
 | succ i ih=>
  intro hi;rw[Pn,SN i _ _ _ _ (fun z hz=>by rw[Jr];exact hr i (by omega) z hz),ih (by omega)];constructor
  .rintro(⟨x,h1,h2⟩ | ⟨h1,h2⟩)
   .exact⟨x,by omega,h2⟩
   .exact⟨i,by omega,h1,h2⟩
  .rintro⟨x,h1,h2,h3⟩
   by_cases hx:x=i
   .subst hx;exact .inr ⟨h2,h3⟩
   .exact .inl ⟨x,by omega,h2,h3⟩
theorem Nu{g:List (List Int)}(hg:GOk g)(w:Nat)(y:Int):y∈(An g).getD w []↔∃x:Nat,x<g.length/\y=(x:Int)/\(w:Int)∈g.getD x []:=revI_mem (fun v hv=>(hg.row v hv).2) w y g.length (Uq _)
theorem Pm{g:List (List Int)}(hrw:VG g)(h:Cd g=true):GOk g:=by obtain⟨h1,h2⟩:=ME hrw h;exact⟨h1,fun v hv=>⟨by have:=(h2 v hv).1;omega,(h2 v hv).2⟩⟩
theorem revG_gok{g:List (List Int)}(hrw:VG g)(h:Cd g=true):GOk (An g):=by
 obtain⟨h1,h2⟩:=ME hrw h;have hl:(An g).length=g.length:=Jr g _;refine⟨by omega,fun v hv=>⟨?_,fun w hw=>?_⟩⟩
 .have:=Ra (fun v hv=>(h2 v hv).1) v g.length (Uq _);unfold An;omega
 .obtain⟨x,hx,rfl,_⟩:=(Nu (Pm hrw h) v w).1 hw;omega
theorem rcv_rev{g:List (List Int)}(hg:GOk g){s:List Bool}{v u:Nat}(h:Rcv (An g) s v u):Rcv g s u v:=by
 induction h with
 | refl h=>exact .refl h
 | @step u w _ hw ho ih=>
  obtain⟨x,hx,e,h2⟩:=(Nu hg u _).1 hw;have:x=w:=by omega
  subst this;exact(Rcv.step (.refl ho) h2 ih.open1).trans ih
theorem mem_lt{g:List (List Int)}{x:Nat}{y:Int}(h:y∈g.getD x []):x<g.length:=by
 rcases U3 x g.length with h1 | h1
 .exact h1
 .rw[Ug,UB h1] at h;cases h
theorem rcv_vre{g:List (List Int)}(hg:GOk g){s:List Bool}{u v:Nat}(h:Rcv g s u v):Rcv (An g) s v u:=by
 induction h with
 | refl h=>exact .refl h
 | @step a w h1 hw ho ih=>exact(Rcv.step (.refl ho) ((Nu hg w _).2 ⟨a,mem_lt hw,rfl,hw⟩) ih.open1).trans ih
def Mut2(g:List (List Int))(s:List Bool):Prop:=CE g s=0/\(∃v,s.getD v true=false)/\∀v w,s.getD v true=false->s.getD w true=false->Rcv g s v w
open Classical in
def muB(g:List (List Int))(s:List Bool):Bool:=decide (Mut2 g s)
theorem muB_t{g:List (List Int)}{s:List Bool}(h:Mut2 g s):muB g s=true:=by unfold muB;exact @Ul _ (Classical.propDecidable _) h
theorem Ez{g:List (List Int)}{s:List Bool}(h:¬Mut2 g s):muB g s=false:=by unfold muB;exact @Uk _ (Classical.propDecidable _) h
theorem J0{g:List (List Int)}{s:List Bool}:CE g s=if Cd g=true then (if s.length≠g.length then 19 else 0) else 20:=rfl
theorem GO{s:List Bool}{v:Nat}(h:s.getD v true=false):v<s.length:=by
 rcases U3 v s.length with h1 | h1
 .exact h1
 .rw[Ug,UB h1] at h;cases h
theorem rmu_c{g:List (List Int)}{s:List Bool}(hrw:VG g):CT Vb 148 [] [.lst (gL g),.lst (boL s)] [] (.tup [.bool (muB g s),.int .i64 (CE g s)]):=by
 refine rmu_ct g s ([],_) ?_;unfold NN;rw[Ab hrw];have hlg:=BZ g;by_cases hc:CE g s=0
 case neg=>rw[Ag (UZ.2 hc),Ez (fun h=>hc h.1)];exact .ret _
 rw[Ad (by rw[hc];rfl),hc];have hc':=hc;rw[J0] at hc';have hv:Cd g=true:=by cases h:Cd g with | true=>rfl | false=>rw[h] at hc';cases hc'
 rw[Ud hv] at hc';have hl:s.length=g.length:=by
  by_cases h:s.length≠g.length
  .rw[Ud h] at hc';cases hc'
  .omega
 have hg:=Pm hrw hv;have h24:=hg.len
 have key:∀(j k:Nat) (c:Int),k+j=g.length->0<=c/\c<=k->(0<c↔∃v,v<k/\s.getD v true=false)->(∀v w,v<k->s.getD v true=false->s.getD w true=false->Rcv g s v w)->
   Ac (MQ g s) (some (.inl (.l0 c (k:Int)))) (([],.tup [.bool (muB g s),.int .i64 0]):Ret):=by
  intro j;induction j with
  | zero=>
   intro k c hk hcb hco hall;have hkg:k=g.length:=by omega
   refine .to (show EQ g s c k=some (.inr ([],.tup [.bool (decide (0<c)),.int .i64 0])) from ?_) ?_
   .unfold EQ;rw[Ad (AA (by rw[hlg];simp only[iN];omega))]
   .have:muB g s=decide (0<c):=by
     by_cases h:0<c
     .rw[AB h];obtain⟨v,_,hv⟩:=hco.1 h;exact muB_t ⟨hc,⟨v,hv⟩,fun a b ha hb=>hall a b (by have:=GO ha;omega) ha hb⟩
     .rw[AA h];refine Ez fun⟨_,⟨v,hv⟩,_⟩=>h (hco.2 ⟨v,by have:=GO hv;omega,hv⟩)
    rw[this];exact .ret _
  | succ j ih=>
   intro k c hk hcb hco hall;have hkl:k<s.length:=by omega
   have hsk:=Ax true hkl;have wk:=zW k (by omega);cases hso:s.getD k true with
   | true=>
    refine .to (show EQ g s c k=some (.inl (.l0 c ((k+1:Nat):Int))) from ?_) (ih (k+1) c (by omega) ⟨hcb.1,by omega⟩ (hco.trans ⟨fun⟨v,h1,h2⟩=>⟨v,by omega,h2⟩,fun⟨v,h1,h2⟩=>⟨v,?_,h2⟩⟩) fun v w h1 h2 h3=>hall v w ?_ h2 h3)
    .unfold EQ;rw[Ag (AB (by rw[hlg];simp only[iN];omega)),Ab (by omega),Uo,Ak hsk,hso,Ag rfl,wk]
    .rcases U3 v k with h | h
     .exact h
     .have:v=k:=by omega
      subst this;rw[hso] at h2;cases h2
    .rcases U3 v k with h | h
     .exact h
     .have:v=k:=by omega
      subst this;rw[hso] at h2;cases h2
   | false=>
    have wc:i64.wrap (c+1)=c+1:=CB (by omega) (by omega);have hrl:(rcL g s k).length=g.length:=by unfold rcL;simp
    refine .to (show EQ g s c k=some (.inl (.l1 (c+1) (k:Int) (rcL g s k) 0)) from ?_) ?_
    .unfold EQ;rw[Ag (AB (by rw[hlg];simp only[iN];omega)),Ab (by omega),Uo,Ak hsk,hso,Ad rfl,Ab hg,Ab hl,Ab ⟨by omega,by simp only[iN];omega⟩,wc]
    have inner:∀(i q:Nat),q+i=g.length->(∀w,w<q->s.getD w true=false->Rcv g s k w)->Ac (MQ g s) (some (.inl (.l1 (c+1) (k:Int) (rcL g s k) (q:Int)))) (([],.tup [.bool (muB g s),.int .i64 0]):Ret):=by
     intro i;induction i with
     | zero=>
      intro q hq hok;refine .to (show Dj g s (c+1) k (rcL g s k) q=some (.inl (.l0 (c+1) ((k+1:Nat):Int))) from ?_) (ih (k+1) (c+1) (by omega) ⟨by omega,by omega⟩ ⟨fun _=>⟨k,by omega,hso⟩,fun _=>by omega⟩ fun v w h1 h2 h3=>?_)
      .unfold Dj;rw[Ad (AA (by rw[hlg];simp only[iN];omega)),wk]
      .rcases U3 v k with h | h
       .exact hall v w h h2 h3
       .have:v=k:=by omega
        subst this;exact hok w (by have:=GO h3;omega) h3
     | succ i ihi=>
      intro q hq hok;have hql:q<s.length:=by omega
      have hsq:=Ax true hql;have wq:=zW q (by omega);have hrq:(rcL g s k)[q]?=some (mkB g s k q):=by unfold rcL;rw[Up,UA (by omega),Uo];rfl
      cases hsqo:s.getD q true with
      | true=>
       refine .to (show Dj g s (c+1) k (rcL g s k) q=some (.inl (.l1 (c+1) (k:Int) (rcL g s k) ((q+1:Nat):Int))) from ?_) (ihi (q+1) (by omega) fun w hw ho=>hok w ?_ ho)
       .unfold Dj;rw[Ag (AB (by rw[hlg];simp only[iN];omega)),Ab (by omega),Uo,Ak hsq,hsqo,Ad (by rfl),wq]
       .rcases U3 w q with h | h
        .exact h
        .have:w=q:=by omega
         subst this;rw[hsqo] at ho;cases ho
      | false=>
       cases hm:mkB g s k q with
       | true=>
        refine .to (show Dj g s (c+1) k (rcL g s k) q=some (.inl (.l1 (c+1) (k:Int) (rcL g s k) ((q+1:Nat):Int))) from ?_) (ihi (q+1) (by omega) fun w hw ho=>?_)
        .unfold Dj;rw[Ag (AB (by rw[hlg];simp only[iN];omega)),Ab (by omega),Uo,Ak hsq,hsqo,Ag (by rfl),Ak hrq,hm,Ad (by rfl),wq]
        .rcases U3 w q with h | h
         .exact hok w h ho
         .have:w=q:=by omega
          subst this;exact EE.1 hm
       | false=>
        refine .to (show Dj g s (c+1) k (rcL g s k) q=some (.inr ([],.tup [.bool false,.int .i64 0])) from ?_) ?_
        .unfold Dj;rw[Ag (AB (by rw[hlg];simp only[iN];omega)),Ab (by omega),Uo,Ak hsq,hsqo,Ag (by rfl),Ak hrq,hm,Ag (by rfl)]
        .rw[Ez fun h=>by
          have:=EE.2 (h.2.2 k q hso hsqo);rw[hm] at this;cases this]
         exact .ret _
    exact inner g.length 0 (by omega) fun w hw=>absurd hw (U2 _)
 exact key g.length 0 0 (by omega) ⟨by omega,by omega⟩ ⟨fun h=>absurd h (by omega),fun⟨v,h,_⟩=>absurd h (U2 _)⟩ fun v w h=>absurd h (U2 _)
section
variable {n:Nat} {ok:Nat->Bool} {L:Nat->Nat->Bool}
structure GU(n:Nat)(ok:Nat->Bool)(L:Nat->Nat->Bool)(mk mk':List Bool):Prop where
 len:mk'.length=mk.length
 mono:∀x,mk.getD x false=true->mk'.getD x false=true
 sound:∀P:Nat->Prop,(∀b c,b<n->c<n->P c->ok b=true->L b c=true->P b)->(∀x,mk.getD x false=true->P x)->∀x,mk'.getD x false=true->P x
theorem GU.refl(mk:List Bool):GU n ok L mk mk:=⟨rfl,fun _ h=>h,fun _ _ h=>h⟩
theorem GU.trans{a b c:List Bool}(h:GU n ok L a b)(k:GU n ok L b c):GU n ok L a c:=⟨k.len.trans h.len,fun x hx=>k.mono x (h.mono x hx),fun P hP ha=>k.sound P hP (h.sound P hP ha)⟩
end
structure Aj where
 cl:List Bool
 bw:List Int
 pe:List Int
def sgA(s:Aj):AV:=.agg [.lst (boL s.cl),lI s.bw,lI s.pe]
inductive FH where | l0 (v0:Int)
def idxSt(l:List Int)(q:Int):FH->St | .l0 v0=>St.mk 19 [(0,Va (U4 iv l)),(1,iv q),(7,iv (iN (U4 iv l).length)),(8,iv v0)] []
def idxEn(l:List Int)(q:Int):Option (FH⊕Ret):=some (.inl (.l0 ((0:Int))))
def EC(l:List Int)(q v0:Int):Option (FH⊕Ret):=br (decide (v0<iN (U4 iV l).length)) (gu (0<=v0) <|el l (v0.toNat) fun(x14:Int)=>br (q==x14) (some (.inr ([],iV v0))) (some (.inl (.l0 (i64.wrap (v0+1)))))) (some (.inr ([],iV (-1))))
def idxStep(l:List Int)(q:Int):FH->Option (FH⊕Ret) | .l0 v0=>EC l q v0
theorem idx_ct(l:List Int)(q:Int)(r:Ret)(h:Ac (idxStep l q) (idxEn l q) r):CT Vb 138 ([]) ([lI l,.int .i64 q]) r.1 r.2:=
 CT.mach (fn:=Tryz.f138) (c:=zB Tryz.f138) (S:=(idxSt l q)) (hd:=FH.ctorIdx) Tryz.func138 (by kernel_rfl) (nL rfl)
  (fun s o ho=>match s,ho with
 | .l0 v0,ho=>Scr.ok (X:=EC l q v0) ho mix (
 .rn 0 [] [] [] [] (al (al t3)) <|
 .br (fun a0=>
 .rn 0 [19] [] [] [] (aj a0 (al (u2 s2))) <|
 .gu fun a1=>
 .el fun x14 a2=>
 .rn 0 [] [(14,iv x14)] [] [] (al (u2 (u2 (u2 (aj (k2 (aj a1 (Af (f:=iv) a2))) (u2 (al t3))))))) <|
 .br (fun a3=>
  .rt [33] [] [] [] [] [] (aj (aj a3 (al (u2 s2))) t2))
 (fun a3=>
  .lp [32] [] [] [] [] [] [0,1,7,8] (aj (aj a3 (al (u2 s2))) t5)))
 (fun a0=>
 .rt [18] [] [] [] [] [] (aj (aj a0 s2) t2))) (by kernel_rfl)
  )
  (fun o ho=>Scr.ok (X:=idxEn l q) ho mix (
 .lp [] [] [] [] [] [] [0,1,7,8] (aj (u2 (al (u2 (u2 t2)))) t5)) (by kernel_rfl)) h
inductive F1 where | l0 (v0:Int) (v1:List Bool)
def OE(q:Aj):F1->St | .l0 v0 v1=>St.mk 23 [(1,AV.ptr 0 0 0),(3,AV.sl 1 0 (boL q.cl).length),(4,iv v0)] [some (bK [AV.agg [Va (boL q.cl),Va (U4 iv q.bw),Va (U4 iv q.pe)]] 3),some (bK (U4 bV v1) 1)]
def OG(q:Aj):Option (F1⊕Ret):=gu (∀(e:AV),e∈boL q.cl->e.cells.length=1) <|gu ((boL q.cl).length<=9223372036854775807) <|gu ((boL q.cl).length * 1<=140737488355328) <|some (.inl (.l0 ((0:Int)) (q.cl)))
def Ha(q:Aj)(v0:Int)(v1:List Bool):Option (F1⊕Ret):=br (decide (v0<iN (U4 iV q.pe).length)) (gu (0<=v0) <|el (q.pe) (v0.toNat) fun(x19:Int)=>gu (0<=x19) <|gu (x19<iN (boL q.cl).length) <|gu ((0+x19.toNat).succ.le (U4 bV v1).length) <|some (.inl (.l0 (i64.wrap (v0+1)) (v1.set (0+x19.toNat) true)))) (gu ((boL q.cl).length=(U4 bV v1).length) <|some (.inr ([],Va (U4 bV v1))))
def celStep(q:Aj):F1->Option (F1⊕Ret) | .l0 v0 v1=>Ha q v0 v1
theorem cel_ct(q:Aj)(r:Ret)(h:Ac (celStep q) (OG q) r):CT Vb 108 ([]) ([sgA q]) r.1 r.2:=
 CT.mach (fn:=Tryz.f108) (c:=zB Tryz.f108) (S:=(OE q)) (hd:=F1.ctorIdx) Tryz.func108 (by kernel_rfl) (nL rfl)
  (fun s o ho=>match s,ho with
 | .l0 v0 v1,ho=>Scr.ok (X:=Ha q v0 v1) ho mix (
 .rn 0 [] [] [] [] (al (u2 (u2 (u2 (u2 (al t3)))))) <|
 .br (fun a0=>
 .gu fun a1=>
 .el fun x19 a2=>
 .gu fun a3=>
 .gu fun a4=>
 .gu fun a5=>
 .lq [25] [(19,iv x19)] [] [] [] [0,1] [1,3,4] (up [] [(1,(U4 bV v1).set (0+x19.toNat) (bV true))] (OE q (.l0 (i64.wrap (v0+1)) (v1.set (0+x19.toNat) true)))) (aj (aj a0 (aj (u2 (u2 (u2 (u2 (aj (k2 (aj a1 (Af (f:=iv) a2))) (u2 (aj (k2 (aj a3 a4)) (al (ak a5))))))))) (al (u2 (u2 s2))))) t6) (by simp[up,upF,upV,upH,upB,OE,gL,boL,lI]))
 (fun a0=>
 .rn 0 [24] [] [] [] (aj a0 (al (u2 s2))) <|
 .gu fun a1=>
 .rt [] [] [] [] [] [1] (ak (al a1)))) (by kernel_rfl)
  )
  (fun o ho=>Scr.ok (X:=OG q) ho mix (
 .rn 0 [] [] [] [] (al (u2 t2)) <|
 .gu fun a0=>
 .gu fun a1=>
 .gu fun a2=>
 .lp [] [] [] [] [] [0,1] [1,3,4] (aj (aj (u2 (u2 (aj (ak (aj a0 (aj a1 a2))) s2))) s2) t6)) (by kernel_rfl)) h
def wkA:AV->AV | .agg cs=>.agg (cs.map wk1) | a=>wk1 a
def wk2:AV->AV | .agg cs=>.agg (cs.map wk1) | .tup cs=>.tup (cs.map wkA) | a=>wk1 a
theorem VR.wkA{φ:Phi}{A:Nat->Prop}{w:World}{a:AV}{v:Value}(h:VR φ A w a v):VR φ A w (wkA a) v:=by
 unfold Proofs.YthjgbnbibebigaaGreat.wkA;split
 .cases h with
  | imm _ _ h=>
   cases h with
   | agg _ vs hl h=>
    refine .agg _ vs (by simpa using hl) fun i c v hc hv=>?_
    rw[Up] at hc;obtain⟨c',hc',rfl⟩:=Option.map_eq_some_iff.1 hc;exact(VR.imm _ _ (h i c' v hc' hv)).wk1
  | agg _ vs hl h=>
   refine .agg _ vs (by simpa using hl) fun i c v hc hv=>?_
   rw[Up] at hc;obtain⟨c',hc',rfl⟩:=Option.map_eq_some_iff.1 hc;exact(h i c' v hc' hv).wk1
 .exact h.wk1
theorem VR.wk2{φ:Phi}{A:Nat->Prop}{w:World}{a:AV}{v:Value}(h:VR φ A w a v):VR φ A w (wk2 a) v:=by
 unfold Proofs.YthjgbnbibebigaaGreat.wk2;split
 .exact VR.wkA h
 .cases h with
  | imm _ _ h=>cases h
  | tup _ vs hl h=>
   refine .tup _ vs (by simpa using hl) fun i c v hc hv=>?_
   rw[Up] at hc;obtain⟨c',hc',rfl⟩:=Option.map_eq_some_iff.1 hc;exact VR.wkA (h i c' v hc' hv)
 .exact h.wk1
theorem CT.w2{f:FuncId}{hin hout:List (Option Blk)}{args:List AV}{res:AV}(h:CT Vb f hin args hout res):CT Vb f hin args hout (wk2 res):=h.less fun _ _ _ _ h=>VR.wk2 h
def I3(l:List Int)(x:Int):Int:=match fnd (fun i=>l.getD i 0==x) 0 l.length with | some i=>(i:Int) | none=> -1
theorem idxZ_has(l:List Int)(x:Int):decide (0<=I3 l x)=AR l x:=by
 unfold I3 AR;cases fnd (fun i=>l.getD i 0==x) 0 l.length with
 | none=>rfl
 | some i=>simp
theorem idx_c(l:List Int)(x:Int)(hl:l.length<=9223372036854775807):CT Vb 138 [] [lI l,.int .i64 x] [] (.int .i64 (I3 l x)):=by
 refine idx_ct l x ([],_) ?_;refine(loop_fnd (fun i=>FH.l0 (i:Int)) l.length (fun i=>l.getD i 0==x) (rF:=fun i=>([],.int .i64 (i:Int))) (r:=([],.int .i64 (-1))) (fun i hi hp=>?_) (fun i r hi hp hr=>?_) (fun _=>?_)).res (by unfold I3;split<;>simp_all)
 .refine .to (show EC l x i=_ from ?_) (.ret _);unfold EC;rw[C2 0 hi,Ag (by rw[<-hp];exact BEq.comm)]
 .refine .to (show EC l x i=_ from ?_) hr;unfold EC;rw[C2 0 hi,Ad (by rw[<-hp];exact BEq.comm),zW i (by omega)]
 .refine .to (show EC l x l.length=_ from ?_) (.ret _);unfold EC;rw[AO]
def AD(s:Aj):List Bool:=s.pe.foldl (fun c b=>c.set b.toNat true) s.cl
theorem KC:∀(l:List Int) (c:List Bool),(l.foldl (fun c b=>c.set b.toNat true) c).length=c.length:=by
 intro l;induction l with
 | nil=>intro c;rfl
 | cons x l ih=>intro c;rw[List.foldl_cons,ih,UL]
theorem DX(s:Aj):(AD s).length=s.cl.length:=KC _ _
theorem Ky(l:List Bool):∀(e:AV),e∈boL l->e.cells.length=1:=fun e he=>by unfold boL at he;obtain⟨b,_,rfl⟩:=UI.1 he;rfl
theorem Gr(l:List Int):∀(e:AV),e∈U4 (AV.int .i64) l->e.cells.length=1:=fun e he=>by obtain⟨b,_,rfl⟩:=UI.1 he;rfl
theorem OA(s:Aj)(hl:s.cl.length<=1000000)(hp:s.pe.length<=1000000)(hb:∀b∈s.pe,0<=b/\b<(s.cl.length:Int)):CT Vb 108 [] [sgA s] [] (.lst (boL (AD s))):=by
 refine cel_ct s ([],_) ?_;have hL:=A9 s.cl;unfold OG;rw[Ab (Ky _),Ab (by omega),Ab (by omega)];refine Oi (L:=fun i b=>F1.l0 (i:Int) b) (f:=fun c b=>c.set b.toNat true) (l:=s.pe) s.cl (fun i x hx h=>?_) ?_
 .have hlen:=KC (s.pe.take i) s.cl;have h2:=hb x (Uj hx);have hi:=(Uh.1 hx).1;generalize (s.pe.take i).foldl (fun c b=>c.set b.toNat true) s.cl=c at *;refine .to (show Ha s i c=_ from ?_) h;unfold Ha;rw[AS hx,Ab h2.1,Ab (by simp only[iN];omega),Ab (show Nat.le _ _ from(by simp only[Ui];show 0+x.toNat+1<=_;omega)),zW i (by omega),Uu]
 .refine .to (show Ha s s.pe.length (AD s)=_ from ?_) (.ret _);unfold Ha;rw[AO,Ab (by rw[hL,Ui,DX])];rfl
def bdW(s:Aj)(i:Nat):Bool:=decide (s.bw.getD i 0 < -1)||(decide (8<=s.bw.getD i 0)||(decide (0<=s.bw.getD i 0)&&!(s.cl.getD i true)))
def bdP(nb:Nat)(s:Aj)(i:Nat):Bool:=decide (s.pe.getD i 0<0)||(decide ((nb:Int)<=s.pe.getD i 0)||(s.cl.getD (s.pe.getD i 0).toNat true||AR (s.pe.take i) (s.pe.getD i 0)))
def FY(n:Aa)(s:Aj):Bool:=decide (s.cl.length=Al n)&&(decide (s.bw.length=Al n)&&((fnd (bdW s) 0 s.bw.length).isNone&&(fnd (bdP n.bs.length s) 0 s.pe.length).isNone))
def BC(n:Aa)(s:Aj):Bool:=A8 n&&FY n s
structure BB(n:Aa)(s:Aj):Prop where
 lc:s.cl.length=Al n
 lb:s.bw.length=Al n
 bw:∀i,i<s.bw.length->-1<=s.bw.getD i 0/\s.bw.getD i 0<8/\(0<=s.bw.getD i 0->s.cl.getD i true=true)
 pb:∀b∈s.pe,0<=b/\b<(n.bs.length:Int)/\s.cl.getD b.toNat true=false
 nd:s.pe.Nodup
theorem Tv{l:List Int}{i j:Nat}(h:j<i)(hj:j<l.length):l.getD j 0∈l.take i:=by
 have hl:j<(l.take i).length:=by rw[UF];omega
 have:(l.take i)[j]=l.getD j 0:=by rw[List.getElem_take,Ug,Uf hj];rfl
 rw[<-this];exact UJ _
theorem nd_of{l:List Int}(h:∀i,i<l.length->AR (l.take i) (l.getD i 0)=false):l.Nodup:=by
 refine List.pairwise_iff_getElem.2 fun i j hi hj hij e=>?_
 refine Ln (h j hj) ?_;have h2:l.getD j 0=l.getD i 0:=by rw[Ug,Uf hj,Ug,Uf hi];exact e.symm
 rw[h2];exact Tv hij hi
theorem nd_has{l:List Int}(hn:l.Nodup){i:Nat}(hi:i<l.length):AR (l.take i) (l.getD i 0)=false:=by
 cases h:AR (l.take i) (l.getD i 0) with
 | false=>rfl
 | true=>obtain⟨j,hj,e⟩:=UO.1 (Fo.1 h);rw[UF] at hj;rw[List.getElem_take] at e;have:=nd_inj hn (i:=j) (j:=i) (by omega) hi (by rw[Ug,Uf (show j<l.length by omega)];exact e);omega
theorem getD_mem{l:List Int}{i:Nat}(h:i<l.length):l.getD i 0∈l:=by rw[Ug,Uf h];exact UJ _
theorem sigF_iff{n:Aa}{s:Aj}:FY n s=true↔BB n s:=by
 unfold FY;simp only[Un,decide_eq_true_eq,Option.isNone_iff_eq_none];constructor
 .rintro⟨h1,h2,h3,h4⟩
  have hp:∀i,i<s.pe.length->bdP n.bs.length s i=false:=fun i hi=>Jk h4 i (Ur _) (by omega)
  unfold bdP at hp;simp only[Bool.or_eq_false_iff,decide_eq_false_iff_not] at hp;refine⟨h1,h2,fun i hi=>?_,fun b hb=>?_,nd_of fun i hi=>(hp i hi).2.2.2⟩
  .have:=Jk h3 i (Ur _) (by omega);unfold bdW at this;simp only[Bool.or_eq_false_iff,decide_eq_false_iff_not,Bool.and_eq_false_iff] at this;refine⟨by omega,by omega,fun h0=>?_⟩;rcases this.2.2 with h | h
   .omega
   .simpa using h
  .obtain⟨i,hi,rfl⟩:=UO.1 hb;have:=hp i hi;rw[Ug,Uf hi] at this;simp only[Option.getD_some] at this;exact⟨by omega,by omega,this.2.2.1⟩
 .intro h;refine⟨h.lc,h.lb,LL fun i _ hi=>?_,LL fun i _ hi=>?_⟩
  .obtain⟨h1,h2,h3⟩:=h.bw i (by omega);unfold bdW;rw[AA (show ¬s.bw.getD i 0 < -1 by omega),AA (show ¬8<=s.bw.getD i 0 by omega)];by_cases h0:0<=s.bw.getD i 0
   .rw[h3 h0];simp
   .rw[AA h0];rfl
  .obtain⟨h1,h2,h3⟩:=h.pb _ (getD_mem (show i<s.pe.length by omega));unfold bdP;rw[AA (show ¬s.pe.getD i 0<0 by omega),AA (show ¬(n.bs.length:Int)<=s.pe.getD i 0 by omega),h3,nd_has h.nd (by omega)];rfl
theorem Qs{n:Aa}{s:Aj}:BC n s=true↔Aq n/\BB n s:=by unfold BC;rw[Un,BD,sigF_iff]
theorem Q5{n:Nat}{x:Int}(h0:0<=x)(h1:x<(n:Int)):x∈(List.range n).map (fun i:Nat=>(i:Int)):=UI.2 ⟨x.toNat,List.mem_range.2 (by omega),by omega⟩
theorem BB.pl{n:Aa}{s:Aj}(h:BB n s):s.pe.length<=n.bs.length:=by
 have:=RM h.nd (d:=(List.range n.bs.length).map fun i:Nat=>(i:Int)) fun x hx=>Q5 (h.pb x hx).1 (h.pb x hx).2.1
 rwa [Ui,UV] at this
theorem Qe:∀{l:List Int} {c:List Bool},(∀b∈l,0<=b/\b<(c.length:Int))->∀(x:Nat),(l.foldl (fun c b=>c.set b.toNat true) c).getD x true=(c.getD x true||AR l (x:Int)):=by
 intro l;induction l with
 | nil=>intro c _ x;simp[AR,fnd]
 | cons y l ih=>
  intro c h x;have hy:=h y (by simp);rw[List.foldl_cons,ih (fun b hb=>by rw[UL];exact h b (Uw _ hb)) x];have e:(c.set y.toNat true).getD x true=(c.getD x true||decide (y=(x:Int))):=by
   rw[Ug,U1,Ug];by_cases hx:y=(x:Int)
   .rw[Ud (by omega),Ud (by omega),AB hx];simp
   .rw[Ue (by omega),AA hx,Bool.or_false]
  have e2:AR (y::l) (x:Int)=(decide (y=(x:Int))||AR l (x:Int)):=by rw[Bool.eq_iff_iff,Bool.or_eq_true,Fo,Fo,UG,decide_eq_true_eq];exact or_congr eq_comm Iff.rfl
  rw[e,e2,Bool.or_assoc]
theorem P4{n:Aa}{s:Aj}(hv:Aq n)(h:BB n s)(x:Nat):(AD s).getD x true=(s.cl.getD x true||AR s.pe (x:Int)):=Qe (fun b hb=>by have:=h.pb b hb;have:=h.lc;have:=hv.cel;omega) x
def O7(l:List Int)(q:Int):Option (Empty⊕Ret):=gu (l.length<=9223372036854775807) <|some (.inr ([],bV (decide (0<=I3 l q))))
theorem con_ct(l:List Int)(q:Int)(r:Ret)(h:Ac emT (O7 l q) r):CT Vb 92 ([]) ([lI l,.int .i64 q]) r.1 r.2:=
 CT.mach (fn:=Tryz.f92) (c:=zB Tryz.f92) (S:=emS) (hd:=emH) Tryz.func92 (by kernel_rfl) (nL rfl)
  (fun s o ho=>match s,ho with
   | x,_=>x.elim)
  (fun o ho=>Scr.ok (X:=O7 l q) ho mix (
 .rn 0 [] [] [] [] s2 <|
 .gu fun a0=>
 have c0:=idx_c l q a0;
 .rt [] [] [(7,hK c0 [] [])] [] [] [] (aj (al (u2 (u2 (aj (ak (k3 (al (c0)))) (u2 s2))))) t2)) (by kernel_rfl)) h
inductive Ec where | l0 (v0:Int) | l1 (v0:Int)
def foSt(n:Aa)(q:Aj):Ec->St | .l0 v0=>St.mk 96 [(2,AV.ptr 0 0 0),(3,AV.ptr 1 0 0),(5,iv v0)] [some (bK [Ai n] 8),some (bK [AV.agg [Va (boL q.cl),Va (U4 iv q.bw),Va (U4 iv q.pe)]] 3)] | .l1 v0=>St.mk 96 [(2,AV.ptr 0 0 0),(3,AV.ptr 1 0 0),(6,iv v0)] [some (bK [Ai n] 8),some (bK [AV.agg [Va (boL q.cl),Va (U4 iv q.bw),Va (U4 iv q.pe)]] 3)]
def foEn(n:Aa)(q:Aj):Option (Ec⊕Ret):=gu (Aq n) <|br (iN (boL q.cl).length != iN (Al n)) (some (.inr ([],bV false))) (br (iN (U4 iV q.bw).length != iN (boL q.cl).length) (some (.inr ([],bV false))) (some (.inl (.l0 ((0:Int))))))
def Ev(n:Aa)(q:Aj)(v0:Int):Option (Ec⊕Ret):=br (decide (v0<iN (U4 iV q.bw).length)) (gu (0<=v0) <|el (q.bw) (v0.toNat) fun(x33:Int)=>br (decide (x33 < -1)) (some (.inr ([],bV false))) (el (q.bw) (v0.toNat) fun(x40:Int)=>br (decide (8<=x40)) (some (.inr ([],bV false))) (el (q.bw) (v0.toNat) fun(x48:Int)=>br (x48 != -1) (el (q.cl) (v0.toNat) fun(x55:Bool)=>br (!x55) (some (.inr ([],bV false))) (some (.inl (.l0 (i64.wrap (v0+1)))))) (some (.inl (.l0 (i64.wrap (v0+1)))))))) (some (.inl (.l1 ((0:Int)))))
def EO(n:Aa)(q:Aj)(v0:Int):Option (Ec⊕Ret):=br (decide (v0<iN (U4 iV q.pe).length)) (gu (0<=v0) <|el (q.pe) (v0.toNat) fun(x70:Int)=>br (decide (x70<0)) (some (.inr ([],bV false))) (br (decide (iN (U4 bA n.bs).length<=x70)) (some (.inr ([],bV false))) (gu (0<=x70) <|el (q.cl) (x70.toNat) fun(x85:Bool)=>br x85 (some (.inr ([],bV false))) (gu (∀(e:AV),e∈U4 iV q.pe->e.cells.length=1) <|gu (v0<=iN (U4 iV q.pe).length) <|gu ((U7 (v0.toNat-U9 0) (U6 (U9 0) q.pe)).length<=9223372036854775807) <|br (AR (U7 (v0.toNat-U9 0) (U6 (U9 0) q.pe)) x70) (some (.inr ([],bV false))) (some (.inl (.l1 (i64.wrap (v0+1))))))))) (some (.inr ([],bV true)))
def foStep(n:Aa)(q:Aj):Ec->Option (Ec⊕Ret) | .l0 v0=>Ev n q v0 | .l1 v0=>EO n q v0
theorem fo_ct(n:Aa)(q:Aj)(r:Ret)(h:Ac (foStep n q) (foEn n q) r):CT Vb 149 ([]) ([Ai n,sgA q]) r.1 r.2:=
 CT.mach (fn:=Tryz.f149) (c:=zB Tryz.f149) (S:=(foSt n q)) (hd:=Ec.ctorIdx) Tryz.func149 (by kernel_rfl) (nL rfl)
  (fun s o ho=>match s,ho with
 | .l0 v0,ho=>Scr.ok (X:=Ev n q v0) ho mix (
 .rn 0 [] [] [] [] (al (u2 (u2 (u2 (u2 (al t3)))))) <|
 .br (fun a0=>
 .gu fun a1=>
 .el fun x33 a2=>
 .br (fun a3=>
  .rt [55,73] [(33,iv x33)] [] [] [] [] (aj (aj a0 (aj (u2 (u2 (u2 (aj (k2 (aj a1 (Af (f:=iv) a2))) (u2 (u2 (u2 (aj a3 (aj a3 (aj a3 (aj a3 (aj a3 (aj a3 (ag a3 (u2 (ak (k3 (k5 (k5 (al t3)))))))))))))))))))) (ak s2))) t2))
 (fun a3=>
  .el fun x40 a4=>
  .br (fun a5=>
  .rt [55,72,89] [(33,iv x33),(40,iv x40)] [] [] [] [] (aj (aj a0 (aj (u2 (u2 (u2 (aj (k2 (aj a1 (Af (f:=iv) a2))) (u2 (u2 (u2 (ag a3 (ag a3 (ag a3 (aj (aj a3 (k2 (aj a1 (Af (f:=iv) a4)))) (ag a3 (ag a3 (ag a3 (u2 (aj a5 (aj a5 (aj a5 (aj a5 (aj a5 (aj a5 (aj a5 (ak (k5 (aj a5 (al (aj a5 t2))))))))))))))))))))))))))) (ak s2))) t2))
  (fun a5=>
  .el fun x48 a6=>
  .br (fun a7=>
   .el fun x55 a8=>
   .rn 0 [55,72,88,103] [(33,iv x33),(40,iv x40),(48,iv x48),(55,bV x55)] [] [] (aj a0 (al (u2 (u2 (u2 (aj (k2 (aj a1 (Af (f:=iv) a2))) (u2 (u2 (u2 (ag a3 (ag a3 (ag a3 (aj (aj a3 (k2 (aj a1 (Af (f:=iv) a4)))) (ag a3 (ag a3 (ag a3 (u2 (ag a5 (ag a5 (ag a5 (aj (aj a5 (k2 (aj a1 (Af (f:=iv) a6)))) (ag a5 (ag a5 (ag a5 (ag a7 (ag a7 (ag a7 (aj (aj a7 (k2 (aj a1 (Af (f:=bV) a8)))) (ag a7 (ag a7 (aj (aj a5 (aj a7 t2)) (al (aj a5 t2))))))))))))))))))))))))))))))))) <|
   .br (fun a9=>
   .rt [72,88,103,119] [] [] [] [] [] (aj (aj a9 s2) t2))
   (fun a9=>
   .lp [72,88,103,118] [] [] [] [] [0,1] [2,3,5] (aj (aj a9 (al (u2 (u2 s2)))) t6)))
  (fun a7=>
   .lp [55,72,88,102] [(33,iv x33),(40,iv x40),(48,iv x48)] [] [] [] [0,1] [2,3,5] (aj (aj a0 (aj (u2 (u2 (u2 (aj (k2 (aj a1 (Af (f:=iv) a2))) (u2 (u2 (u2 (ag a3 (ag a3 (ag a3 (aj (aj a3 (k2 (aj a1 (Af (f:=iv) a4)))) (ag a3 (ag a3 (ag a3 (u2 (ag a5 (ag a5 (ag a5 (aj (aj a5 (k2 (aj a1 (Af (f:=iv) a6)))) (ag a5 (ag a5 (ag a5 (aj a7 (aj a7 (aj a7 (aj a7 (aj a7 (aj a7 (aj (aj a5 (aj a7 t2)) (al (aj a5 t2))))))))))))))))))))))))))))))) (ak (al (u2 (u2 s2)))))) t6)))))
 (fun a0=>
 .lp [54] [] [] [] [] [0,1] [2,3,6] (aj (aj a0 s2) t6))) (by kernel_rfl)
 | .l1 v0,ho=>Scr.ok (X:=EO n q v0) ho mix (
 .rn 0 [] [] [] [] (al (u2 (u2 (u2 (u2 (al t3)))))) <|
 .br (fun a0=>
 .gu fun a1=>
 .el fun x70 a2=>
 .rn 0 [129] [(70,iv x70)] [] [] (aj a0 (al (u2 (u2 (u2 (aj (k2 (aj a1 (Af (f:=iv) a2))) (u2 s2))))))) <|
 .br (fun a3=>
  .rt [149] [] [] [] [] [] (aj (aj (u2 (u2 (u2 (aj a3 (aj a3 (aj a3 (aj a3 (aj a3 (ag a3 (u2 (k5 (aj t3 (u2 (ak (k5 (al t3)))))))))))))))) (ak s2)) t2))
 (fun a3=>
  .br (fun a4=>
  .rt [148,163] [] [] [] [] [] (aj (aj (u2 (u2 (u2 (ag a3 (ag a3 (ag a3 (ag a3 (aj (aj a3 t3) (ag a3 (u2 (aj a4 (aj a4 (aj a4 (aj a4 (aj a4 (ag a4 (u2 (ak (k5 (al t3)))))))))))))))))))) (ak s2)) t2))
  (fun a4=>
  .gu fun a5=>
  .el fun x85 a6=>
  .br (fun a7=>
   .rt [148,162,177] [(85,bV x85)] [] [] [] [] (aj (aj (u2 (u2 (u2 (ag a3 (ag a3 (ag a3 (ag a3 (aj (aj a3 t3) (ag a3 (u2 (ag a4 (ag a4 (ag a4 (aj (aj a4 (k2 (aj a5 (Af (f:=bV) a6)))) (ag a4 (ag a4 (u2 (aj a7 (aj a7 (aj a7 (aj a7 (aj a7 (aj a7 (al (aj a7 t2))))))))))))))))))))))))) (ak s2)) t2))
  (fun a7=>
   .gu fun a8=>
   .gu fun a9=>
   .gu fun a10=>
   have c0:=EB (U7 (v0.toNat-U9 0) (U6 (U9 0) q.pe)) x70 a10;
   .rn 0 [148,162,176] [(85,bV x85)] [(94,hK c0 [] [])] [] (al (u2 (u2 (u2 (ag a3 (ag a3 (ag a3 (ag a3 (aj (aj a3 t3) (ag a3 (u2 (ag a4 (ag a4 (ag a4 (aj (aj a4 (k2 (aj a5 (Af (f:=bV) a6)))) (ag a4 (ag a4 (u2 (ag a7 (ag a7 (ag a7 (aj (aj a7 (k2 (aj a8 (aj (Int.le_refl 0) (aj a1 (aj a9 (show iN (U4 iv q.pe).length<=iN (U4 iv q.pe).length by omega))))))) (ag a7 (aj (aj a7 (ak (k3 (al (show CT Vb 16 [] [Va (U7 (v0.toNat-U9 0) (U6 (U9 0) (U4 iv q.pe))),iv x70] [] (bV (AR (U7 (v0.toNat-U9 0) (U6 (U9 0) q.pe)) x70)) from CT.eqs (c0) (by first | (simp only[boL,Us,U0,List.map_take,List.map_drop,List.map_replicate,List.nil_append]<;>rfl) | (simp[gL,boL,lI,sA,bA]<;>rfl)) (by first | (simp only[boL,Us,U0,List.map_take,List.map_drop,List.map_replicate,List.nil_append]<;>rfl) | (simp[gL,boL,lI,sA,bA]<;>rfl))))))) (al (aj a7 t2)))))))))))))))))))))))))) <|
   .br (fun a11=>
   .rt [148,162,176,191] [] [] [] [] [] (aj (aj a11 s2) t2))
   (fun a11=>
   .lp [148,162,176,190] [] [] [] [] [0,1] [2,3,6] (aj (aj a11 (al (u2 (u2 s2)))) t6))))))
 (fun a0=>
 .rt [128] [] [] [] [] [] (aj (aj a0 s2) t2))) (by kernel_rfl)
  )
  (fun o ho=>Scr.ok (X:=foEn n q) ho mix (
 .rn 0 [] [] [] [] (al (u2 (u2 t2))) <|
 .gu fun a0=>
 .br (fun a1=>
 have c0:=FP a0;
 .rt [29] [] [(12,hK c0 [] [])] [] [] [] (aj (aj (u2 (u2 (u2 (u2 (aj (ak (aj t9 (al (c0)))) (aj t3 (u2 (aj a1 (aj a1 (aj a1 (aj a1 (aj a1 (aj a1 (aj a1 (al (aj a1 t2)))))))))))))))) (ak s2)) t2))
 (fun a1=>
 have c0:=FP a0;
 .rn 0 [28] [] [(12,hK c0 [] [])] [] (al (u2 (u2 (u2 (u2 (aj (ak (aj t9 (al (c0)))) (aj t3 (u2 (ag a1 (ag a1 (ag a1 (ag a1 (ag a1 (ag a1 (aj (aj a1 t3) (al (aj a1 t2))))))))))))))))) <|
 .br (fun a2=>
  .rt [28,45] [] [] [] [] [] (aj (aj a2 s2) t2))
 (fun a2=>
  .lp [28,44] [] [] [] [] [0,1] [2,3,5] (aj (aj a2 s2) t6)))) (by kernel_rfl)) h
inductive FM where | l0 (v0:Int) (v1:List Int)
def Jp(n:Aa):FM->St | .l0 v0 v1=>St.mk 29 [(2,AV.ptr 0 0 0),(4,AV.ptr 1 0 0),(5,iv v0)] [some (bK [AV.agg [AV.nils,AV.nils,AV.nils]] 3),some (Blk.mk [AV.agg [AV.sl 2 0 (U5 (iN (Al n)).toNat false).length,AV.sl 3 0 v1.length,AV.nils]] 3 false true none),some (bK (U5 (iN (Al n)).toNat (bV false)) 1),some (bK (U4 iv v1) 1)]
def MP(n:Aa):Option (FM⊕Ret):=gu (RwV n) <|br (!A8 n) (some (.inr ([],AV.tup [AV.agg [AV.nils,AV.nils,AV.nils],iV 20]))) (gu (Aq n) <|gu (1 * iN (Al n)<=281474976710656) <|gu (iN (Al n)<=9223372036854775807) <|gu (8 * iN (Al n)<=281474976710656) <|some (.inl (.l0 ((0:Int)) (U5 (iN (Al n)).toNat 0))))
def HH(n:Aa)(v0:Int)(v1:List Int):Option (FM⊕Ret):=br (decide (v0<iN v1.length)) (gu (0<=v0) <|gu (v0<iN v1.length) <|gu ((0+v0.toNat).succ.le (U4 iV v1).length) <|some (.inl (.l0 (i64.wrap (v0+1)) (v1.set (0+v0.toNat) (-1))))) (some (.inr ([],AV.tup [AV.agg [Va (U5 (iN (Al n)).toNat (bV false)),Va (U4 iV v1),AV.nils],iV 0])))
def r20nStep(n:Aa):FM->Option (FM⊕Ret) | .l0 v0 v1=>HH n v0 v1
theorem r20n_ct(n:Aa)(r:Ret)(h:Ac (r20nStep n) (MP n) r):CT Vb 53 ([]) ([Ai n]) r.1 r.2:=
 CT.mach (fn:=Tryz.f53) (c:=zB Tryz.f53) (S:=(Jp n)) (hd:=FM.ctorIdx) Tryz.func53 (by kernel_rfl) (nL rfl)
  (fun s o ho=>match s,ho with
 | .l0 v0 v1,ho=>Scr.ok (X:=HH n v0 v1) ho mix (
 .rn 0 [] [] [] [] (al (u2 (u2 (u2 (u2 (al t3)))))) <|
 .br (fun a0=>
 .gu fun a1=>
 .gu fun a2=>
 .gu fun a3=>
 .lq [43] [] [] [] [] [0,1,2,3] [2,4,5] (up [] [(1,[AV.agg [AV.sl 2 0 (U5 (iN (Al n)).toNat false).length,AV.sl 3 0 v1.length,AV.nils]]),(3,(U4 iv v1).set (0+v0.toNat) (iv (-1)))] (Jp n (.l0 (i64.wrap (v0+1)) (v1.set (0+v0.toNat) (-1))))) (aj (aj a0 (aj (u2 (u2 (u2 (aj (k2 (aj a1 a2)) (al (ak a3)))))) (al (u2 (u2 s2))))) (ak (k3 (aj (al t4) t3)))) (by simp[up,upF,upV,upH,upB,Jp,gL,boL,lI,sA,bA]))
 (fun a0=>
 .rt [42] [] [] [] [] [2,3] (aj (aj a0 (al (u2 (aj (k2 n11) t2)))) (al (aj (aj (show(U5 (iN (Al n)).toNat false).length=(U5 (iN (Al n)).toNat (bV false)).length by simp) (aj (show v1.length=(U4 iv v1).length by simp) t2)) t2))))) (by kernel_rfl)
  )
  (fun o ho=>Scr.ok (X:=MP n) ho mix (
 .rn 0 [] [] [] [] (al (u2 t3)) <|
 .gu fun a0=>
 have c0:=N4 a0;
 .rn 0 [] [] [(7,hK c0 [] [])] [] (al (u2 (aj (ak (aj t9 (al (c0)))) s2))) <|
 .br (fun a1=>
 .rt [17] [] [] [] [] [] (aj (aj a1 (al (ak (aj (k2 n11) t2)))) (al (aj t4 t2))))
 (fun a1=>
 .gu fun a2=>
 .gu fun a3=>
 .gu fun a4=>
 .gu fun a5=>
 have c1:=FP a2;
 have c2:=FP a2;
 .lq [16] [] [(11,hK c1 [] []),(14,hK c2 [] [])] [] [] [1,4,2,3] [2,4,5] (up [] [(1,[AV.agg [AV.sl 2 0 (iN (Al n)).toNat,AV.sl 3 0 (iN (Al n)).toNat,AV.nils]]),(3,U5 (iN (Al n)).toNat (iv 0))] (Jp n (.l0 ((0:Int)) (U5 (iN (Al n)).toNat 0)))) (aj (aj a1 (aj (u2 (aj (ak (aj t9 (al (c1)))) (aj (k2 (aj (show 0<=iN (Al n) by simp) (aj (show iN (Al n)<=iN (Al n) by omega) (aj a3 a4)))) (u2 (aj (ak (aj t9 (al (c2)))) (aj (k2 (aj (show 0<=iN (Al n) by simp) (aj (show iN (Al n)<=iN (Al n) by omega) (aj a5 a4)))) (aj t3 (ak (al (k2 n11)))))))))) s2)) (ak (k3 (aj (al t4) t3)))) (by simp[up,upF,upV,upH,upB,Jp,gL,boL,lI,sA,bA]))) (by kernel_rfl)) h
theorem K4{σ ρ:Type}{step:σ->Option (σ⊕ρ)}(L:Nat->σ)(N:Nat)(p:Nat->Bool){rF:Nat->ρ}{r:ρ}
  (hb:∀i,i<N->(∀j,j<i->p j=false)->p i=true->Ac step (some (.inl (L i))) (rF i))
  (hg:∀i x,i<N->(∀j,j<i->p j=false)->p i=false->Ac step (some (.inl (L (i+1)))) x->Ac step (some (.inl (L i))) x)
  (he:fnd p 0 N=none->Ac step (some (.inl (L N))) r):Ac step (some (.inl (L 0))) (match fnd p 0 N with | some i=>rF i | none=>r):=by
 have key:∀k i,i+k=N->(∀j,j<i->p j=false)->fnd p 0 N=fnd p i (N-i)->Ac step (some (.inl (L i))) (match fnd p i (N-i) with | some i=>rF i | none=>r):=by
  intro k;induction k with
  | zero=>intro i hi _ h0
          have e:i=N:=by omega
          subst e;rw[P1 (by omega)] at h0 ⊢
          exact he h0
  | succ k ih=>
   intro i hi hj h0;have hlt:i<N:=by omega
   rw[QR hlt] at h0 ⊢
   cases hp:p i with
   | true=>exact hb i hlt hj hp
   | false=>
    rw[hp] at h0;refine hg i _ hlt hj hp (ih (i+1) (by omega) (fun j h=>?_) h0);rcases U3 j i with h1 | h1
    .exact hj j h1
    .have:j=i:=by omega
     subst this;exact hp
 exact key N 0 (by omega) (fun j h=>absurd h (U2 _)) rfl
theorem con_c(l:List Int)(x:Int)(hl:l.length<=9223372036854775807):CT Vb 92 [] [lI l,.int .i64 x] [] (.bool (AR l x)):=by refine con_ct l x ([],_) ?_;unfold O7;rw[Ab hl,idxZ_has];exact .ret _
theorem IM{n:Aa}(hv:Aq n):Al n<=48/\n.bs.length<=Al n:=⟨hv.cel.2.2,hv.cel.2.1⟩
theorem KX{α:Type}(l:List α)(i:Nat):U7 ((i:Int).toNat-U9 0) (U6 (U9 0) l)=l.take i:=by rw[Uo];simp
theorem Ng{nb:Nat}{s:Aj}{i:Nat}(hi:i<=s.pe.length)(hbd:∀j,j<i->bdP nb s j=false):i<=nb:=by
 unfold bdP at hbd;simp only[Bool.or_eq_false_iff,decide_eq_false_iff_not] at hbd;have hn:(s.pe.take i).Nodup:=nd_of fun j h=>by
  rw[UF] at h;have e:(s.pe.take i).getD j 0=s.pe.getD j 0:=by rw[Ug,Ux,Ud (by omega),<-Ug]
  rw[e,List.take_take,Nat.min_eq_left (by omega)];exact(hbd j (by omega)).2.2.2
 have:=RM hn (d:=(List.range nb).map fun i:Nat=>(i:Int)) fun x hx=>by obtain⟨j,hj,rfl⟩:=UO.1 hx;rw[UF] at hj;have:=hbd j (by omega);rw[Ug,Uf (show j<s.pe.length by omega)] at this;simp only[Option.getD_some] at this;rw[List.getElem_take];exact Q5 (by omega) (by omega)
 rw[Ui,UV,UF] at this;omega
theorem fo_c{n:Aa}(s:Aj)(hv:Aq n):CT Vb 149 [] [Ai n,sgA s] [] (.bool (FY n s)):=by
 refine fo_ct n s ([],_) ?_;obtain⟨h48,hnb⟩:=IM hv;unfold foEn FY;rw[Ab hv,A9,Ui];by_cases h1:s.cl.length=Al n
 case neg=>rw[Ag (UZ.2 (by simp only[iN];omega)),AA h1];exact .ret _
 rw[Ad (by rw[h1];simp),AB h1,Bool.true_and];by_cases h2:s.bw.length=Al n
 case neg=>rw[Ag (UZ.2 (by simp only[iN];omega)),AA h2];exact .ret _
 rw[Ad (by rw[h1,h2];simp),AB h2,Bool.true_and];refine(K4 (fun i=>Ec.l0 (i:Int)) s.bw.length (bdW s) (rF:=fun _=>([],.bool false)) (r:=([],.bool (fnd (bdP n.bs.length s) 0 s.pe.length).isNone)) (fun i hi _ hp=>?_) (fun i x hi _ hp hx=>?_) (fun _=>?_)).res (by cases fnd (bdW s) 0 s.bw.length<;>rfl)
 .refine .to (show Ev n s i=_ from ?_) (.ret _);unfold Ev;unfold bdW at hp;rw[C2 0 hi];cases hd1:decide (s.bw.getD i 0 < -1) with
  | true=>rw[Ag rfl]
  | false=>
   rw[hd1,Ua] at hp;rw[Ad rfl,elG 0 hi];cases hd2:decide (8<=s.bw.getD i 0) with
   | true=>rw[Ag rfl]
   | false=>rw[hd2,Ua,Un] at hp;rw[Ad rfl,elG 0 hi,Ag (by have:=of_decide_eq_true hp.1;exact UZ.2 (by omega)),elG true (show i<s.cl.length by omega),Ag hp.2]
 .refine .to (show Ev n s i=_ from ?_) hx;unfold Ev;unfold bdW at hp;simp only[Bool.or_eq_false_iff] at hp;rw[C2 0 hi,Ad hp.1,elG 0 hi,Ad hp.2.1,elG 0 hi,zW i (by omega)];have h3:=of_decide_eq_false hp.1;by_cases hm:s.bw.getD i 0 = -1
  .rw[Ad (by rw[hm];rfl)]
  .rw[Ag (UZ.2 hm),elG true (show i<s.cl.length by omega)];have hq:=hp.2.2;rw[AB (show 0<=s.bw.getD i 0 by omega),Bool.true_and] at hq;rw[Ad hq]
 .refine .to (show Ev n s s.bw.length=_ from ?_) ?_ (y:=some (.inl (.l1 ((0:Nat):Int))))
  .unfold Ev;rw[AO];rfl
  refine(K4 (fun i=>Ec.l1 (i:Int)) s.pe.length (bdP n.bs.length s) (rF:=fun _=>([],.bool false)) (r:=([],.bool true)) (fun i hi hj hp=>?_) (fun i x hi hj hp hx=>?_) (fun _=>?_)).res (by cases fnd (bdP n.bs.length s) 0 s.pe.length<;>rfl)
  .have hi24:=Ng (Nat.le_of_lt hi) hj;refine .to (show EO n s i=_ from ?_) (.ret _);unfold EO;unfold bdP at hp;rw[C2 0 hi];by_cases hd1:s.pe.getD i 0<0
   .rw[Ag (AB hd1)]
   rw[AA hd1,Ua] at hp;rw[Ad (AA hd1)];by_cases hd2:(n.bs.length:Int)<=s.pe.getD i 0
   .rw[Ag (AB (by rw[Ui];exact hd2))]
   rw[AA hd2,Ua] at hp;rw[Ad (AA (by rw[Ui];exact hd2)),Ab (by omega),Ak (Ax true (show(s.pe.getD i 0).toNat<s.cl.length by omega))];cases hd3:s.cl.getD (s.pe.getD i 0).toNat true with
   | true=>rw[Ag rfl]
   | false=>rw[hd3,Ua] at hp;rw[Ad rfl,Ab (Gr _),Ab (by simp only[iN,Ui];omega),KX,Ab (by rw[UF];omega),Ag hp]
  .have hi24:=Ng (Nat.le_of_lt hi) hj;refine .to (show EO n s i=_ from ?_) hx;unfold EO;unfold bdP at hp;simp only[Bool.or_eq_false_iff,decide_eq_false_iff_not] at hp;rw[C2 0 hi,Ad (AA hp.1),Ad (AA (by rw[Ui];exact hp.2.1)),Ab (by omega),Ak (Ax true (show(s.pe.getD i 0).toNat<s.cl.length by omega)),Ad hp.2.2.1,Ab (Gr _),Ab (by simp only[iN,Ui];omega),KX,Ab (by rw[UF];omega),Ad hp.2.2.2,zW i (by omega)]
  .refine .to (show EO n s s.pe.length=_ from ?_) (.ret _);unfold EO;rw[AO]
theorem M1{P:Program}{o:Oper}{ev:Operand->AV}{h:Hp}{nb:Nat}{t t' e:TypeId}{x y:Operand}(ho:o.op = .binOp .eql t x y t')(hu:P.underlying t=some (.slice e))(hx:ev x = .lst [])(hy:ev y = .nils):
  JA P o ev h nb (fun R=>∃b,R={v:=.bool b}):=by
 intro φ A w a K Q hA hv hh hn k;have h1:=hv x;rw[hx] at h1;have h2:=hv y;rw[hy] at h2;have h2:=h2.nils_inv;have hs:∃ad c,a.eval x = .slice ad 0 c:=by
  rcases h1.lst_inv with ⟨_,ad,he⟩ | ⟨r,o',cap,z,g,he,_⟩
  .exact⟨ad,0,he⟩
  .exact⟨_,cap,he⟩
 obtain⟨ad,c,he⟩:=hs;have key:∃b,(execOp a.eval o).run P w = .ok (.value (.bool b)) w:=by
  have hg:(eqGuard .eql t x y (.slice ad 0 c) (.slice none 0 0)).run P w = .ok () w:=by unfold eqGuard;split<;>simp_all
  have hr:∃b,(Op.equal t (.slice ad 0 c) (.slice none 0 0)).run P w = .ok b w:=by
   have key:∀d,∃b,(Op.equalIn (d+1) t (.slice ad 0 c) (.slice none 0 0)).run P w = .ok b w:=by
    intro d;cases ad with
    | none=>exact⟨true,by simp[Op.equalIn,run_underlying hu]⟩
    | some ad=>exact⟨false,by simp[Op.equalIn,run_underlying hu]⟩
   exact key 9999
  obtain⟨b,hr⟩:=hr;refine⟨b,?_⟩;simp only[execOp,ho,he,h2,Sem.run_bind,hg,Result.andThen_ok,binOp,hr];rfl
 obtain⟨b,hb⟩:=key;have hv1:Ao P o ev h nb {v:=.bool b}->True:=fun _=>trivial
 unfold Oper.wp;rw[hb];refine k {v:=.bool b} _ w φ ⟨b,rfl⟩ ⟨Bs.refl _ w,fun _ _=>rfl,fun b hb=>hn b (by simpa using hb),fun b r z hb h=>?_,fun b b' r z z' hb _ h _=>?_,.imm _ _ (.bool _),fun b blk hm=>by simp at hm,fun blk hm=>by simp at hm,?_,?_⟩
 .rw[hn b hb] at h;cases h
 .rw[hn b hb] at h;cases h
 .intro b blk hm;simp at hm
 .intro b blk hm;simp at hm
theorem cl97_e:CT Vb 73 [] [.lst []] [some (Blk.mk [] 1 true true none)] (.sl 0 0 0):=by
 refine CT.of Tryz.func73 (show Tryz.f73.body=some (zB Tryz.f73) from by kernel_rfl) (nL rfl) ?_;refine T.seq ?_;refine T.ops (st':=?st1) ?steps1 ?post1
 case steps1=>refine .av (.nils) rfl rfl rfl (by kernel_rfl) ?_;exact .nil _
 show T Vb 0 _ _ _;refine T.seq (T.seq ?_);refine T.opsN (.val (v:=.lst []) (noG rfl) rfl (nL rfl) (BU rfl (hint:=.no) (R:={v:=.lst []}) (p:=True) (by kernel_rfl) trivial).1 (.one (S:=fun R=>∃b,R={v:=.bool b}) (noG rfl) (M1 (e:=3) rfl (by kernel_rfl) rfl rfl) (fun R hR=>?_) (fun R hR=>?_)))
 .obtain⟨b,rfl⟩:=hR;exact⟨OpR.fits_value _ _,fun b hb=>by simp at hb,fun d hd=>by cases hd;exact nL rfl⟩
 obtain⟨b,rfl⟩:=hR;refine .nil ?_;cases b with
 | true=>
  refine T.cond_true rfl (T.seq ?_);refine T.ops (st':=?st2) ?steps2 ?post2
  case steps2=>refine .av (.nils) rfl rfl rfl (by kernel_rfl) ?_;exact .nil _
  refine T.ret ?_;refine⟨.inr rfl,.nils,⟨Tryz.f73.ntmps,[(0,.sl 0 0 0)],[some (Blk.mk [] 1 true true none)]⟩,rfl,Ren.less rfl (Ur _) (fun s=>?_) (fun b blk hb=>?_),rfl,rfl,(nL rfl)⟩
  .cases s with
   | zero=>exact .nilS _ _
   | succ s=>exact .refl _
  .cases b with
   | zero=>simp[nth] at hb;subst hb;exact .inr ⟨Uq _,rfl,rfl,rfl,rfl⟩
   | succ b=>simp[nth] at hb
 | false=>
  refine T.cond_false rfl (T.skip ?_);refine T.seq ?_;refine T.ops (st':=?st3) ?steps3 ?post3
  case steps3=>refine .new (v:=.sl 0 0 0) (blk:=Blk.mk [] 1 true true none) rfl rfl (nL rfl) (BU rfl (hint:=.no) (R:={v:=.sl 0 0 0,new:=[Blk.mk [] 1 true true none]}) (p:=True) (by kernel_rfl) trivial).1 ?_;refine .av (.lst []) rfl rfl rfl (by kernel_rfl) ?_;refine .move (v:=.sl 1 0 0) (b:=0) (blk:=Blk.mk [] 1 true true none) rfl rfl (nL rfl) rfl rfl (Ur _) (BU rfl (hint:=.no) (R:={v:=.sl 1 0 0,dead:=[0],new:=[Blk.mk [] 1 true true none]}) (p:=0=0/\BE (nth [some (Blk.mk [] 1 true true none)]) 1 (.lst [])/\0+0<=9223372036854775807/\(0+0) * 8<=140737488355328) (by kernel_rfl) ⟨rfl,(fun e he=>by cases he),(by omega),(by omega)⟩).1 ?_;refine .av (.sl 1 0 0) rfl rfl rfl (by kernel_rfl) ?_;exact .nil _
  refine T.ret ?_;exact⟨.inr rfl,.sl 1 0 0,⟨Tryz.f73.ntmps,[(0,.sl 0 0 0)],[some (Blk.mk [] 1 true true none)]⟩,rfl,Ren.of (p:=True/\True/\True) [1] [] [0] (by kernel_rfl) ⟨trivial,trivial,trivial⟩ rfl rfl rfl,rfl,rfl,(nL rfl)⟩
theorem cl55_e:CT Vb 45 [] [.lst []] [some (Blk.mk [] 1 true true none)] (.sl 0 0 0):=by
 refine CT.of Tryz.func45 (show Tryz.f45.body=some (zB Tryz.f45) from by kernel_rfl) (nL rfl) ?_;refine T.seq ?_;refine T.ops (st':=?st1) ?steps1 ?post1
 case steps1=>refine .av (.nils) rfl rfl rfl (by kernel_rfl) ?_;exact .nil _
 show T Vb 0 _ _ _;refine T.seq (T.seq ?_);refine T.opsN (.val (v:=.lst []) (noG rfl) rfl (nL rfl) (BU rfl (hint:=.no) (R:={v:=.lst []}) (p:=True) (by kernel_rfl) trivial).1 (.one (S:=fun R=>∃b,R={v:=.bool b}) (noG rfl) (M1 (e:=4) rfl (by kernel_rfl) rfl rfl) (fun R hR=>?_) (fun R hR=>?_)))
 .obtain⟨b,rfl⟩:=hR;exact⟨OpR.fits_value _ _,fun b hb=>by simp at hb,fun d hd=>by cases hd;exact nL rfl⟩
 obtain⟨b,rfl⟩:=hR;refine .nil ?_;cases b with
 | true=>
  refine T.cond_true rfl (T.seq ?_);refine T.ops (st':=?st2) ?steps2 ?post2
  case steps2=>refine .av (.nils) rfl rfl rfl (by kernel_rfl) ?_;exact .nil _
  refine T.ret ?_;refine⟨.inr rfl,.nils,⟨Tryz.f45.ntmps,[(0,.sl 0 0 0)],[some (Blk.mk [] 1 true true none)]⟩,rfl,Ren.less rfl (Ur _) (fun s=>?_) (fun b blk hb=>?_),rfl,rfl,(nL rfl)⟩
  .cases s with
   | zero=>exact .nilS _ _
   | succ s=>exact .refl _
  .cases b with
   | zero=>simp[nth] at hb;subst hb;exact .inr ⟨Uq _,rfl,rfl,rfl,rfl⟩
   | succ b=>simp[nth] at hb
 | false=>
  refine T.cond_false rfl (T.skip ?_);refine T.seq ?_;refine T.ops (st':=?st3) ?steps3 ?post3
  case steps3=>refine .new (v:=.sl 0 0 0) (blk:=Blk.mk [] 1 true true none) rfl rfl (nL rfl) (BU rfl (hint:=.no) (R:={v:=.sl 0 0 0,new:=[Blk.mk [] 1 true true none]}) (p:=True) (by kernel_rfl) trivial).1 ?_;refine .av (.lst []) rfl rfl rfl (by kernel_rfl) ?_;refine .move (v:=.sl 1 0 0) (b:=0) (blk:=Blk.mk [] 1 true true none) rfl rfl (nL rfl) rfl rfl (Ur _) (BU rfl (hint:=.no) (R:={v:=.sl 1 0 0,dead:=[0],new:=[Blk.mk [] 1 true true none]}) (p:=0=0/\BE (nth [some (Blk.mk [] 1 true true none)]) 1 (.lst [])/\0+0<=9223372036854775807/\(0+0) * 1<=140737488355328) (by kernel_rfl) ⟨rfl,(fun e he=>by cases he),(by omega),(by omega)⟩).1 ?_;refine .av (.sl 1 0 0) rfl rfl rfl (by kernel_rfl) ?_;exact .nil _
  refine T.ret ?_;exact⟨.inr rfl,.sl 1 0 0,⟨Tryz.f45.ntmps,[(0,.sl 0 0 0)],[some (Blk.mk [] 1 true true none)]⟩,rfl,Ren.of (p:=True/\True/\True) [1] [] [0] (by kernel_rfl) ⟨trivial,trivial,trivial⟩ rfl rfl rfl,rfl,rfl,(nL rfl)⟩
def IY(c:Int):Option (Empty⊕Ret):=some (.inr ([],AV.tup [uV (u64.wrap (u64.wrap (u64.wrap (0 * c.fdiv 4294967296)+(u64.wrap (u64.wrap (0 * u64.wrap (iN (BitVec.ofInt 64 c &&& BitVec.ofInt 64 4294967295).toNat))+(u64.wrap (1 * u64.wrap (iN (BitVec.ofInt 64 c &&& BitVec.ofInt 64 4294967295).toNat))).fdiv 4294967296)).fdiv 4294967296)+(u64.wrap (u64.wrap (iN (BitVec.ofInt 64 (u64.wrap (u64.wrap (0 * u64.wrap (iN (BitVec.ofInt 64 c &&& BitVec.ofInt 64 4294967295).toNat))+(u64.wrap (1 * u64.wrap (iN (BitVec.ofInt 64 c &&& BitVec.ofInt 64 4294967295).toNat))).fdiv 4294967296)) &&& BitVec.ofInt 64 4294967295).toNat)+u64.wrap (1 * c.fdiv 4294967296))).fdiv 4294967296)),uV (u64.wrap (1 * c))]))
theorem mulS_ct(c:Int)(r:Ret)(h:Ac emT (IY c) r):CT Vb 157 ([]) ([.int .u64 1,.int .u64 c]) r.1 r.2:=
 CT.mach (fn:=Tryz.f157) (c:=zB Tryz.f157) (S:=emS) (hd:=emH) Tryz.func157 (by kernel_rfl) (nL rfl)
  (fun s o ho=>match s,ho with
   | x,_=>x.elim)
  (fun o ho=>Scr.ok (X:=IY c) ho mix (
 .rt [] [] [] [] [] [] (aj (aj t3 (aj (u2 (u2 s2)) (aj (u2 (aj (ak (show Int.NonNeg (32:Int) from(by first | decide | exact TV _))) s2)) (aj (u2 (u2 s2)) (aj (u2 (aj (ak (show Int.NonNeg (32:Int) from(by first | decide | exact TV _))) s2)) (aj (u2 (u2 (aj t3 s2))) (aj (u2 (u2 (aj t3 (u2 (aj (ak (show Int.NonNeg (32:Int) from(by first | decide | exact TV _))) (aj t3 s2)))))) (aj (u2 (u2 s2)) (aj (u2 (aj (ak (show Int.NonNeg (32:Int) from(by first | decide | exact TV _))) s2)) (aj (u2 (u2 (u2 (aj t3 (aj t3 s2))))) (aj (u2 (u2 (aj t3 (u2 (aj t3 (u2 (aj (ak (show Int.NonNeg (32:Int) from(by first | decide | exact TV _))) (aj t3 s2)))))))) (al (u2 (u2 (aj t3 s2))))))))))))))) (al t3))) (by kernel_rfl)) h
theorem mulS_fin:∀n:Fin 49,IY ((n.val:Nat):Int)=some (.inr ([],AV.tup [AV.int .u64 0,AV.int .u64 ((n.val:Nat):Int)])):=fun n=>by
 have h:∀n:Fin 49,(match IY ((n.val:Nat):Int) with | some (.inr ([],.tup [.int _ a,.int _ b]))=>decide (a=0)&&decide (b=((n.val:Nat):Int)) | _=>false)=true:=by decide +kernel
 have h:=h n;unfold IY at h ⊢
 simp only[Un,decide_eq_true_eq] at h;rw[h.1,h.2]
theorem mul64_c(c:Int)(h:0<=c/\c<=48):CT Vb 157 [] [.int .u64 1,.int .u64 c] [] (.tup [.int .u64 0,.int .u64 c]):=by
 refine mulS_ct c ([],_) (.val ?_);have:=mulS_fin ⟨c.toNat,by omega⟩;have e:((c.toNat:Nat):Int)=c:=by omega
 simp only[e] at this;exact this
def Mz(c:Int):Option (Empty⊕Ret):=gu (0<=c/\c<=48) <|some (.inr ([],AV.tup [uV 0,uV c]))
theorem mulT_ct(c:Int)(r:Ret)(h:Ac emT (Mz c) r):CT Vb 141 ([]) ([.int .u64 1,.int .u64 c]) r.1 r.2:=
 CT.mach (fn:=Tryz.f141) (c:=zB Tryz.f141) (S:=emS) (hd:=emH) Tryz.func141 (by kernel_rfl) (nL rfl)
  (fun s o ho=>match s,ho with
   | x,_=>x.elim)
  (fun o ho=>Scr.ok (X:=Mz c) ho mix (
 .rn 0 [] [] [] [] (al t3) <|
 .gu fun a0=>
 have c0:=mul64_c c a0;
 .rt [] [] [(25,hK c0 [] [])] [] [] [] (aj (ak (aj (u2 (u2 (aj (ak (k3 (al (c0)))) (u2 (u2 (u2 (u2 s2))))))) (al (u2 (u2 (u2 s2)))))) (al t3))) (by kernel_rfl)) h
theorem mul_c(c:Int)(h:0<=c/\c<=48):CT Vb 141 [] [.int .u64 1,.int .u64 c] [] (.tup [.int .u64 0,.int .u64 c]):=by refine mulT_ct c ([],_) (.val ?_);unfold Mz;rw[Ab h]
inductive E2 where | l0 (v0:Int) (v1:List Int)
def JZ(c:Int):E2->St | .l0 v0 v1=>St.mk 48 [(7,AV.sl 0 0 (i64.wrap (u64.wrap c)).toNat),(8,iv v0)] [some (bK (U4 iv v1) 1)]
def LO(c:Int):Option (E2⊕Ret):=br (decide (c<0)) (none) (gu (0<=u64.wrap c/\u64.wrap c<=48) <|br (decide (9223372036854775807<u64.wrap c)) (none) (gu (0<=i64.wrap (u64.wrap c)) <|gu (8 * i64.wrap (u64.wrap c)<=281474976710656) <|gu (i64.wrap (u64.wrap c)<=9223372036854775807) <|some (.inl (.l0 (iN (min 1 (i64.wrap (u64.wrap c)).toNat)) (U7 (min 1 (i64.wrap (u64.wrap c)).toNat) [-1]++U6 (0+min 1 (i64.wrap (u64.wrap c)).toNat) (U5 (i64.wrap (u64.wrap c)).toNat 0))))))
def LC(c v0:Int)(v1:List Int):Option (E2⊕Ret):=br (decide (v0<iN (i64.wrap (u64.wrap c)).toNat)) (gu (0<=v0) <|gu (v0<=iN (i64.wrap (u64.wrap c)).toNat) <|gu (0+v0.toNat+((i64.wrap (u64.wrap c)).toNat-v0.toNat)<=(U4 iV v1).length) <|gu (0+(v0.toNat-U9 0)<=(U4 iV v1).length) <|some (.inl (.l0 (i64.wrap (v0+iN (min (U7 (v0.toNat-U9 0) (U6 0 (U4 iV v1))).length ((i64.wrap (u64.wrap c)).toNat-v0.toNat)))) (U7 (0+v0.toNat) v1++U7 (min (U7 (v0.toNat-U9 0) (U6 0 (U4 iV v1))).length ((i64.wrap (u64.wrap c)).toNat-v0.toNat)) (U7 (v0.toNat-U9 0) (U6 0 v1))++U6 (0+v0.toNat+min (U7 (v0.toNat-U9 0) (U6 0 (U4 iV v1))).length ((i64.wrap (u64.wrap c)).toNat-v0.toNat)) v1)))) (some (.inr ([some (bK (U4 iV v1) 1)],AV.sl 0 0 (i64.wrap (u64.wrap c)).toNat)))
def Pr(c:Int):E2->Option (E2⊕Ret) | .l0 v0 v1=>LC c v0 v1
theorem rep_ct(c:Int)(r:Ret)(h:Ac (Pr c) (LO c) r):CT Vb 99 ([]) ([lI [-1],.int .i64 c]) r.1 r.2:=
 CT.mach (fn:=Tryz.f99) (c:=zB Tryz.f99) (S:=(JZ c)) (hd:=E2.ctorIdx) Tryz.func99 (by kernel_rfl) (nL rfl)
  (fun s o ho=>match s,ho with
 | .l0 v0 v1,ho=>Scr.ok (X:=LC c v0 v1) ho mix (
 .rn 0 [] [] [] [] (al (u2 (u2 (u2 (al t3))))) <|
 .br (fun a0=>
 .gu fun a1=>
 .gu fun a2=>
 .gu fun a3=>
 .gu fun a4=>
 .lq [75] [] [] [] [] [0] [7,8] (up [] [(0,U7 (0+v0.toNat) (U4 iv v1)++U7 (min (U7 (v0.toNat-U9 0) (U6 0 (U4 iv v1))).length ((i64.wrap (u64.wrap c)).toNat-v0.toNat)) (U7 (v0.toNat-U9 0) (U6 0 (U4 iv v1)))++U6 (0+v0.toNat+min (U7 (v0.toNat-U9 0) (U6 0 (U4 iv v1))).length ((i64.wrap (u64.wrap c)).toNat-v0.toNat)) (U4 iv v1))] (JZ c (.l0 (i64.wrap (v0+iN (min (U7 (v0.toNat-U9 0) (U6 0 (U4 iv v1))).length ((i64.wrap (u64.wrap c)).toNat-v0.toNat)))) (U7 (0+v0.toNat) v1++U7 (min (U7 (v0.toNat-U9 0) (U6 0 (U4 iv v1))).length ((i64.wrap (u64.wrap c)).toNat-v0.toNat)) (U7 (v0.toNat-U9 0) (U6 0 v1))++U6 (0+v0.toNat+min (U7 (v0.toNat-U9 0) (U6 0 (U4 iv v1))).length ((i64.wrap (u64.wrap c)).toNat-v0.toNat)) v1)))) (aj (aj a0 (al (u2 (u2 (u2 (aj (k2 (aj a1 (aj a2 (aj (show iN (i64.wrap (u64.wrap c)).toNat<=iN (i64.wrap (u64.wrap c)).toNat by omega) (show iN (i64.wrap (u64.wrap c)).toNat<=iN (i64.wrap (u64.wrap c)).toNat by omega))))) (u2 (u2 (aj (k2 (aj (Int.le_refl 0) (aj a1 (aj a2 (show iN (i64.wrap (u64.wrap c)).toNat<=iN (i64.wrap (u64.wrap c)).toNat by omega))))) (aj (k2 (aj a3 (aj (show nat_lit 1=nat_lit 1 from rfl) a4))) (aj t3 s2))))))))))) t4) (by simp[up,upF,upV,upH,upB,JZ,gL,boL,lI]))
 (fun a0=>
 .rt [74] [] [] [] [0] [] (aj (aj a0 (al (u2 s2))) t3))) (by kernel_rfl)
  )
  (fun o ho=>Scr.ok (X:=LO c) ho mix (
 .rn 1 [] [] [] [] (u2 (al (u2 s2))) <|
 .br (fun a0=>
 .no)
 (fun a0=>
 .gu fun a1=>
 have c0:=mul_c (u64.wrap c) a1;
 .rn 1 [20] [] [(18,hK c0 [] [])] [] (aj a0 (aj (u2 (u2 (u2 (u2 (u2 (aj (ak (k3 (al (c0)))) (u2 (u2 (u2 (u2 s2)))))))))) (al (u2 (u2 (u2 (aj t3 (aj t3 (al t3))))))))) <|
 .br (fun a2=>
  .no)
 (fun a2=>
  .gu fun a3=>
  .gu fun a4=>
  .gu fun a5=>
  .lq [52] [] [] [] [] [0] [7,8] (up [] [(0,[]++U7 (min 1 (i64.wrap (u64.wrap c)).toNat) [iv (-1)]++U6 (0+min 1 (i64.wrap (u64.wrap c)).toNat) (U5 (i64.wrap (u64.wrap c)).toNat (iv 0)))] (JZ c (.l0 (iN (min 1 (i64.wrap (u64.wrap c)).toNat)) (U7 (min 1 (i64.wrap (u64.wrap c)).toNat) [-1]++U6 (0+min 1 (i64.wrap (u64.wrap c)).toNat) (U5 (i64.wrap (u64.wrap c)).toNat 0))))) (aj (aj a2 (aj (u2 (u2 (aj (k2 (aj a3 (aj (show i64.wrap (u64.wrap c)<=i64.wrap (u64.wrap c) by omega) (aj a4 a5)))) s2))) (al (u2 (u2 (aj (k2 (aj (show 0+(i64.wrap (u64.wrap c)).toNat<=(U5 (i64.wrap (u64.wrap c)).toNat (iv 0)).length by simp) (show ∀(e:AV),e∈[iv (-1:Int)]->e.cells.length=nat_lit 1 from(by first | decide | exact TV _)))) s2)))))) t4) (by simp[up,upF,upV,upH,upB,JZ,gL,boL,lI])))) (by kernel_rfl)) h
def rpV(c m:Nat):List Int:=U5 m (-1)++U5 (c-m) 0
theorem rpV_step{c m k:Nat}(hk:k<=m)(hc:m+k<=c):U7 (0+m) (rpV c m)++U7 k (U7 (m-0) (U6 0 (rpV c m)))++U6 (0+m+k) (rpV c m)=rpV c (m+k):=by
 have e1:U7 m (rpV c m)=U5 m (-1):=by unfold rpV;rw[List.take_append_of_le_length (by simp)];simp
 have e2:U6 (m+k) (rpV c m)=U5 (c-(m+k)) 0:=by unfold rpV;rw[List.drop_append,List.drop_of_length_le (by simp),Uz,List.nil_append,List.drop_replicate];congr 1;omega
 rw[Uu,Nat.sub_zero,List.drop_zero,e1,e2,List.take_replicate,Nat.min_eq_left hk,List.replicate_append_replicate];rfl
theorem IX{c m:Nat}(h:m<=c):(rpV c m).length=c:=by unfold rpV;simp;omega
theorem wrapU{x:Int}(h1:0<=x)(h2:x<=9223372036854775807):u64.wrap x=x:=by simp only[IntKind.wrap,IntKind.bits,IntKind.signed];simp;omega
theorem wrapI{x:Int}(h1:0<=x)(h2:x<=9223372036854775807):i64.wrap x=x:=by simp only[IntKind.wrap,IntKind.bits,IntKind.signed];simp;omega
theorem rep_c(x:Int)(h:0<=x/\x<=48):CT Vb 99 [] [lI [-1],.int .i64 x] [some (Blk.mk ((U5 x.toNat (-1)).map (AV.int .i64)) 1 true true none)] (.sl 0 0 x.toNat):=by
 obtain⟨c,rfl⟩:∃c:Nat,x=c:=⟨x.toNat,by omega⟩;have h48:c<=48:=by omega
 refine rep_ct (c:Int) ([_],_) ?_;have wu:=wrapU (x:=(c:Int)) (by omega) (by omega);have wi:=wrapI (x:=(c:Int)) (by omega) (by omega);have hS:∀a b,Pr (c:Int) (.l0 a b)=LC c a b:=fun _ _=>rfl
 unfold LC at hS;unfold LO;simp only[wu,wi,Uo] at hS ⊢
 rw[Ad (Uk (by omega)),Ab (by omega),Ad (Uk (by omega)),Ab (by omega),Ab (by omega),Ab (by omega)];have key:∀(d m:Nat),c-m<=d->m<=c->(1<=m\/c=0)->Ac (Pr (c:Int)) (some (.inl (.l0 (m:Int) (rpV c m)))) (([some (Blk.mk ((U5 c (-1)).map (AV.int .i64)) 1 true true none)],.sl 0 0 c):Ret):=by
  intro d;induction d with
  | zero=>
   intro m hd hm _;obtain rfl:m=c:=by omega
   refine .to (hS _ _) ?_;rw[Ad (Uk (by simp only[iN];omega))];have:rpV m m=U5 m (-1):=by unfold rpV;simp
   rw[this];exact .ret _
  | succ d ih=>
   intro m hd hm h1;by_cases he:m=c
   .exact ih m (by omega) hm h1
   have hl:=IX hm;refine .to (hS _ _) ?_;have hk:min (U7 (m-U9 0) (U6 0 (U4 (AV.int i64) (rpV c m)))).length (c-m)=min m (c-m):=by rw[List.drop_zero,UF,Ui,hl];simp only[Int.toNat_zero];omega
   rw[Ag (Ul (by simp only[iN];omega)),Ab (by omega),Ab (by simp only[iN];omega),Uo,Ab (by rw[Ui,hl];omega),Ab (by rw[Ui,hl];simp only[Int.toNat_zero];omega),hk,wrapI (by simp only[iN];omega) (by simp only[iN];omega)];have e:=rpV_step (c:=c) (m:=m) (k:=min m (c-m)) (by omega) (by omega);have e2:(m:Int)+iN (min m (c-m))=((m+min m (c-m):Nat):Int):=by simp only[iN];omega
   rw[e2];have:=ih (m+min m (c-m)) (by omega) (by omega) (by omega);rw[<-e] at this;exact this
 have e0:(some (.inl (.l0 (iN (min 1 c)) (U7 (min 1 c) [-1]++U6 (0+min 1 c) (U5 c 0)))):Option (E2⊕Ret))=some (.inl (.l0 ((min 1 c:Nat):Int) (rpV c (min 1 c)))):=by
  have:U7 (min 1 c) [-1]++U6 (0+min 1 c) (U5 c (0:Int))=rpV c (min 1 c):=by
   unfold rpV;cases c with
   | zero=>rfl
   | succ c=>rw[show min 1 (c+1)=1 by omega,Uu,List.drop_replicate];rfl
  rw[this]
 rw[e0];exact key c (min 1 c) (by omega) (by omega) (by omega)
inductive D3 where | l0 (v0:Int) | l1 (v0:Int)
def svaSt(n:Aa)(q:Aj):D3->St | .l0 v0=>St.mk 101 [(2,AV.ptr 0 0 0),(3,AV.ptr 1 0 0),(42,Va (U4 iv q.bw)),(43,iv (iN (U4 iv q.bw).length)),(44,iv v0)] [some (bK [Ai n] 8),some (bK [AV.agg [Va (boL q.cl),Va (U4 iv q.bw),Va (U4 iv q.pe)]] 3)] | .l1 v0=>St.mk 101 [(2,AV.ptr 0 0 0),(3,AV.ptr 1 0 0),(69,Va (U4 iv q.pe)),(70,iv (iN (U4 iv q.pe).length)),(71,iv v0)] [some (bK [Ai n] 8),some (bK [AV.agg [Va (boL q.cl),Va (U4 iv q.bw),Va (U4 iv q.pe)]] 3)]
def Nm(n:Aa)(q:Aj):Option (D3⊕Ret):=gu (RwV n) <|br (Cr n != 0) (some (.inr ([],bV false))) (br (iN (boL q.cl).length != Bi n) (some (.inr ([],bV false))) (br (iN (U4 iV q.bw).length != Bi n) (some (.inr ([],bV false))) (br (decide (iN (U4 bA n.bs).length<iN (U4 iV q.pe).length)) (some (.inr ([],bV false))) (some (.inl (.l0 ((0:Int))))))))
def EM(n:Aa)(q:Aj)(v0:Int):Option (D3⊕Ret):=br (decide (v0<iN (U4 iV q.bw).length)) (gu (0<=v0) <|el (q.bw) (v0.toNat) fun(x47:Int)=>br (decide (x47 < -1)) (some (.inr ([],bV false))) (br (decide (8<=x47)) (some (.inr ([],bV false))) (br (decide (0<=x47)) (el (q.cl) (v0.toNat) fun(x62:Bool)=>br (!x62) (some (.inr ([],bV false))) (some (.inl (.l0 (i64.wrap (v0+1)))))) (some (.inl (.l0 (i64.wrap (v0+1)))))))) (some (.inl (.l1 ((0:Int)))))
def ER(n:Aa)(q:Aj)(v0:Int):Option (D3⊕Ret):=br (decide (v0<iN (U4 iV q.pe).length)) (gu (0<=v0) <|el (q.pe) (v0.toNat) fun(x74:Int)=>br (decide (x74<0)) (some (.inr ([],bV false))) (br (decide (iN (U4 bA n.bs).length<=x74)) (some (.inr ([],bV false))) (gu (0<=x74) <|el (q.cl) (x74.toNat) fun(x89:Bool)=>br x89 (some (.inr ([],bV false))) (gu (∀(e:AV),e∈U4 iV q.pe->e.cells.length=1) <|gu (v0<=iN (U4 iV q.pe).length) <|gu ((U7 (v0.toNat-U9 0) (U6 (U9 0) q.pe)).length<=9223372036854775807) <|br (AR (U7 (v0.toNat-U9 0) (U6 (U9 0) q.pe)) x74) (some (.inr ([],bV false))) (some (.inl (.l1 (i64.wrap (v0+1))))))))) (some (.inr ([],bV true)))
def svaStep(n:Aa)(q:Aj):D3->Option (D3⊕Ret) | .l0 v0=>EM n q v0 | .l1 v0=>ER n q v0
theorem sva_ct(n:Aa)(q:Aj)(r:Ret)(h:Ac (svaStep n q) (Nm n q) r):CT Vb 44 ([]) ([Ai n,sgA q]) r.1 r.2:=
 CT.mach (fn:=Tryz.f44) (c:=zB Tryz.f44) (S:=(svaSt n q)) (hd:=D3.ctorIdx) Tryz.func44 (by kernel_rfl) (nL rfl)
  (fun s o ho=>match s,ho with
 | .l0 v0,ho=>Scr.ok (X:=EM n q v0) ho mix (
 .rn 0 [] [] [] [] (al (al t3)) <|
 .br (fun a0=>
 .gu fun a1=>
 .el fun x47 a2=>
 .rn 0 [91] [(47,iv x47)] [] [] (aj a0 (al (u2 (aj (k2 (aj a1 (Af (f:=iv) a2))) (u2 (u2 s2)))))) <|
 .br (fun a3=>
  .rt [103] [] [] [] [] [] (aj (aj (u2 (u2 (u2 (aj a3 (aj a3 (ag a3 (u2 (k5 (k5 (al t3)))))))))) (ak s2)) t2))
 (fun a3=>
  .br (fun a4=>
  .rt [102,111] [] [] [] [] [] (aj (aj (u2 (u2 (u2 (ag a3 (ag a3 (ag a3 (u2 (aj a4 (aj a4 (aj a4 (ak (k5 (aj a4 (al (aj a4 t2))))))))))))))) (ak s2)) t2))
  (fun a4=>
  .br (fun a5=>
   .el fun x62 a6=>
   .rn 0 [102,110,117] [(62,bV x62)] [] [] (al (u2 (u2 (u2 (ag a3 (ag a3 (ag a3 (u2 (ag a4 (ag a4 (ag a4 (ag a5 (ag a5 (ag a5 (aj (aj a5 (k2 (aj a1 (Af (f:=bV) a6)))) (ag a5 (ag a5 (aj (aj a4 (aj a5 t2)) (al (aj a4 t2)))))))))))))))))))) <|
   .br (fun a7=>
   .rt [102,110,117,133] [] [] [] [] [] (aj (aj a7 s2) t2))
   (fun a7=>
   .lp [102,110,117,132] [] [] [] [] [0,1] [2,3,42,43,44] (aj (aj a7 (al (u2 s2))) t8)))
  (fun a5=>
   .lp [102,110,116] [] [] [] [] [0,1] [2,3,42,43,44] (aj (aj (u2 (u2 (u2 (ag a3 (ag a3 (ag a3 (u2 (ag a4 (ag a4 (ag a4 (aj a5 (aj a5 (aj a5 (aj a5 (aj a5 (aj a5 (aj (aj a4 (aj a5 t2)) (al (aj a4 t2))))))))))))))))))) (ak (al (u2 s2)))) t8)))))
 (fun a0=>
 .lp [90] [] [] [] [] [0,1] [2,3,69,70,71] (aj (aj a0 (al (u2 (u2 (u2 t2))))) t8))) (by kernel_rfl)
 | .l1 v0,ho=>Scr.ok (X:=ER n q v0) ho mix (
 .rn 0 [] [] [] [] (al (al t3)) <|
 .br (fun a0=>
 .gu fun a1=>
 .el fun x74 a2=>
 .rn 0 [145] [(74,iv x74)] [] [] (aj a0 (al (u2 (aj (k2 (aj a1 (Af (f:=iv) a2))) (u2 (u2 s2)))))) <|
 .br (fun a3=>
  .rt [157] [] [] [] [] [] (aj (aj (u2 (u2 (u2 (aj a3 (aj a3 (aj a3 (aj a3 (aj a3 (ag a3 (u2 (k5 (aj t3 (u2 (ak (k5 (al t3)))))))))))))))) (ak s2)) t2))
 (fun a3=>
  .br (fun a4=>
  .rt [156,171] [] [] [] [] [] (aj (aj (u2 (u2 (u2 (ag a3 (ag a3 (ag a3 (ag a3 (aj (aj a3 t3) (ag a3 (u2 (aj a4 (aj a4 (aj a4 (aj a4 (aj a4 (ag a4 (u2 (ak (k5 (al t3)))))))))))))))))))) (ak s2)) t2))
  (fun a4=>
  .gu fun a5=>
  .el fun x89 a6=>
  .br (fun a7=>
   .rt [156,170,185] [(89,bV x89)] [] [] [] [] (aj (aj (u2 (u2 (u2 (ag a3 (ag a3 (ag a3 (ag a3 (aj (aj a3 t3) (ag a3 (u2 (ag a4 (ag a4 (ag a4 (aj (aj a4 (k2 (aj a5 (Af (f:=bV) a6)))) (ag a4 (ag a4 (u2 (aj a7 (aj a7 (aj a7 (aj a7 (aj a7 (aj a7 (al (aj a7 t2))))))))))))))))))))))))) (ak s2)) t2))
  (fun a7=>
   .gu fun a8=>
   .gu fun a9=>
   .gu fun a10=>
   have c0:=con_c (U7 (v0.toNat-U9 0) (U6 (U9 0) q.pe)) x74 a10;
   .rn 0 [156,170,184] [(89,bV x89)] [(98,hK c0 [] [])] [] (al (u2 (u2 (u2 (ag a3 (ag a3 (ag a3 (ag a3 (aj (aj a3 t3) (ag a3 (u2 (ag a4 (ag a4 (ag a4 (aj (aj a4 (k2 (aj a5 (Af (f:=bV) a6)))) (ag a4 (ag a4 (u2 (ag a7 (ag a7 (ag a7 (aj (aj a7 (k2 (aj a8 (aj (Int.le_refl 0) (aj a1 (aj a9 (show iN (U4 iv q.pe).length<=iN (U4 iv q.pe).length by omega))))))) (ag a7 (aj (aj a7 (ak (k3 (al (show CT Vb 92 [] [Va (U7 (v0.toNat-U9 0) (U6 (U9 0) (U4 iv q.pe))),iv x74] [] (bV (AR (U7 (v0.toNat-U9 0) (U6 (U9 0) q.pe)) x74)) from CT.eqs (c0) (by first | (simp only[boL,Us,U0,List.map_take,List.map_drop,List.map_replicate,List.nil_append]<;>rfl) | (simp[gL,boL,lI,sA,bA]<;>rfl)) (by first | (simp only[boL,Us,U0,List.map_take,List.map_drop,List.map_replicate,List.nil_append]<;>rfl) | (simp[gL,boL,lI,sA,bA]<;>rfl))))))) (al (aj a7 t2)))))))))))))))))))))))))) <|
   .br (fun a11=>
   .rt [156,170,184,199] [] [] [] [] [] (aj (aj a11 s2) t2))
   (fun a11=>
   .lp [156,170,184,198] [] [] [] [] [0,1] [2,3,69,70,71] (aj (aj a11 (al (u2 s2))) t8))))))
 (fun a0=>
 .rt [144] [] [] [] [] [] (aj (aj a0 s2) t2))) (by kernel_rfl)
  )
  (fun o ho=>Scr.ok (X:=Nm n q) ho mix (
 .rn 0 [] [] [] [] (al (u2 (u2 t2))) <|
 .gu fun a0=>
 have c0:=Lm a0;
 .rn 0 [] [] [(13,hK c0 [] [])] [] (al (u2 (aj (ak (aj t9 (al (c0)))) (u2 (u2 (u2 (u2 s2))))))) <|
 .br (fun a1=>
 .rt [37] [] [] [] [] [] (aj (aj (u2 (u2 (u2 (aj a1 (aj a1 (aj a1 (aj a1 (aj a1 (ag a1 (u2 (k5 (aj t3 (u2 (k2 (k5 (al t3)))))))))))))))) (ak s2)) t2))
 (fun a1=>
 .br (fun a2=>
  .rt [36,51] [] [] [] [] [] (aj (aj (u2 (u2 (u2 (ag a1 (ag a1 (ag a1 (ag a1 (aj (aj a1 t3) (ag a1 (u2 (aj a2 (aj a2 (aj a2 (aj a2 (aj a2 (ag a2 (u2 (k2 (k5 (al t3)))))))))))))))))))) (ak s2)) t2))
 (fun a2=>
  .br (fun a3=>
  .rt [36,50,65] [] [] [] [] [] (aj (aj (u2 (u2 (u2 (ag a1 (ag a1 (ag a1 (ag a1 (aj (aj a1 t3) (ag a1 (u2 (ag a2 (ag a2 (ag a2 (ag a2 (aj (aj a2 t3) (ag a2 (u2 (aj a3 (aj a3 (aj a3 (aj a3 (aj a3 (aj a3 (aj a3 (al (aj a3 t2)))))))))))))))))))))))))) (ak s2)) t2))
  (fun a3=>
  .rn 0 [36,50,64] [] [] [] (al (u2 (u2 (u2 (ag a1 (ag a1 (ag a1 (ag a1 (aj (aj a1 t3) (ag a1 (u2 (ag a2 (ag a2 (ag a2 (ag a2 (aj (aj a2 t3) (ag a2 (u2 (ag a3 (ag a3 (ag a3 (ag a3 (ag a3 (ag a3 (aj (aj a3 t3) (al (aj a3 t2))))))))))))))))))))))))))) <|
  .br (fun a4=>
   .rt [36,50,64,81] [] [] [] [] [] (aj (aj a4 s2) t2))
  (fun a4=>
   .lp [36,50,64,80] [] [] [] [] [0,1] [2,3,42,43,44] (aj (aj a4 (al (u2 (u2 (u2 t2))))) t8)))))) (by kernel_rfl)) h
def O6(n:Aa)(q:Aj):Option (Empty⊕Ret):=gu (RwV n) <|br (A8 n) (gu (Aq n) <|some (.inr ([],bV (FY n q)))) (some (.inr ([],bV false)))
theorem r20v_ct(n:Aa)(q:Aj)(r:Ret)(h:Ac emT (O6 n q) r):CT Vb 118 ([]) ([Ai n,sgA q]) r.1 r.2:=
 CT.mach (fn:=Tryz.f118) (c:=zB Tryz.f118) (S:=emS) (hd:=emH) Tryz.func118 (by kernel_rfl) (nL rfl)
  (fun s o ho=>match s,ho with
   | x,_=>x.elim)
  (fun o ho=>Scr.ok (X:=O6 n q) ho mix (
 .rn 0 [] [] [] [] (al (u2 (u2 t2))) <|
 .gu fun a0=>
 .br (fun a1=>
 .gu fun a2=>
 have c0:=N4 a0;
 have c1:=fo_c q a2;
 .rt [15] [] [(6,hK c0 [] []),(10,hK c1 [] [])] [] [] [] (aj (al (u2 (aj (ak (aj t9 (al (c0)))) (u2 (ag a1 (ag a1 (aj (aj a1 (k2 (aj t9 (aj t4 (al (c1)))))) (ag a1 s2)))))))) t2))
 (fun a1=>
 have c0:=N4 a0;
 .rt [14] [] [(6,hK c0 [] [])] [] [] [] (aj (al (u2 (aj (ak (aj t9 (al (c0)))) (u2 (aj a1 (aj a1 (aj a1 (ag a1 s2)))))))) t2))) (by kernel_rfl)) h
def LW(l:List Bool):Option (Empty⊕Ret):=gu (boL l=[]->False) <|gu (∀(e:AV),e∈boL l->e.cells.length=1) <|gu (0+(boL l).length<=9223372036854775807) <|gu ((0+(boL l).length) * 1<=140737488355328) <|some (.inr ([some (bK ([]++boL l) 1)],AV.sl 0 0 (0+(boL l).length)))
theorem clb_ct(l:List Bool)(r:Ret)(h:Ac emT (LW l) r):CT Vb 45 ([]) ([.lst (boL l)]) r.1 r.2:=
 CT.mach (fn:=Tryz.f45) (c:=zB Tryz.f45) (S:=emS) (hd:=emH) Tryz.func45 (by kernel_rfl) (nL rfl)
  (fun s o ho=>match s,ho with
   | x,_=>x.elim)
  (fun o ho=>Scr.ok (X:=LW l) ho mix (
 .rn 0 [] [] [] [] s2 <|
 .gu fun a0=>
 .rn 0 [] [] [] [] (al (u2 (al (ak a0)))) <|
 .gu fun a1=>
 .gu fun a2=>
 .gu fun a3=>
 .rt [] [] [] [] [1] [] (aj (ak (al (ak (u2 (aj (k2 (aj (show nat_lit 0=nat_lit 0 from rfl) (aj a1 (aj a2 a3)))) s2))))) t3)) (by kernel_rfl)) h
def OI(l:List Int):Option (Empty⊕Ret):=gu (U4 iV l=[]->False) <|gu (∀(e:AV),e∈U4 iV l->e.cells.length=1) <|gu (0+(U4 iV l).length<=9223372036854775807) <|gu ((0+(U4 iV l).length) * 8<=140737488355328) <|some (.inr ([some (bK ([]++U4 iV l) 1)],AV.sl 0 0 (0+(U4 iV l).length)))
theorem cli_ct(l:List Int)(r:Ret)(h:Ac emT (OI l) r):CT Vb 73 ([]) ([lI l]) r.1 r.2:=
 CT.mach (fn:=Tryz.f73) (c:=zB Tryz.f73) (S:=emS) (hd:=emH) Tryz.func73 (by kernel_rfl) (nL rfl)
  (fun s o ho=>match s,ho with
   | x,_=>x.elim)
  (fun o ho=>Scr.ok (X:=OI l) ho mix (
 .rn 0 [] [] [] [] s2 <|
 .gu fun a0=>
 .rn 0 [] [] [] [] (al (u2 (al (ak a0)))) <|
 .gu fun a1=>
 .gu fun a2=>
 .gu fun a3=>
 .rt [] [] [] [] [1] [] (aj (ak (al (ak (u2 (aj (k2 (aj (show nat_lit 0=nat_lit 0 from rfl) (aj a1 (aj a2 a3)))) s2))))) t3)) (by kernel_rfl)) h
inductive FS where | l0 (v0:Int) (v1:List Int)
def I9(q:Aj)(w:Int):FS->St | .l0 v0 v1=>St.mk 39 [(1,iv w),(2,AV.ptr 0 0 0),(4,AV.ptr 1 0 0),(5,AV.ptr 2 0 0),(6,iv v0)] [some (bK [AV.agg [Va (boL q.cl),Va (U4 iv q.bw),Va (U4 iv q.pe)]] 3),some (bK [AV.agg [AV.nils,AV.nils,AV.nils]] 3),some (Blk.mk [AV.agg [AV.sl 3 0 (boL q.cl).length,AV.sl 4 0 q.bw.length,AV.sl 5 0 v1.length]] 3 false true none),some (bK (boL q.cl) 1),some (bK (U4 iv q.bw) 1),some (bK (U4 iv v1) 1)]
def Po(q:Aj)(w:Int):Option (FS⊕Ret):=gu (∀(e:AV),e∈boL q.cl->e.cells.length=1) <|gu ((boL q.cl).length<=9223372036854775807) <|gu ((boL q.cl).length * 1<=140737488355328) <|gu (∀(e:AV),e∈U4 iV q.bw->e.cells.length=1) <|gu ((U4 iV q.bw).length<=9223372036854775807) <|gu ((U4 iV q.bw).length * 8<=140737488355328) <|some (.inl (.l0 ((0:Int)) ([])))
def Ij(q:Aj)(w v0:Int)(v1:List Int):Option (FS⊕Ret):=br (decide (v0<iN (U4 iV q.pe).length)) (gu (0<=v0) <|el (q.pe) (v0.toNat) fun(x24:Int)=>br (x24 != w) (el (q.pe) (v0.toNat) fun(x33:Int)=>gu ((U4 iV v1).length+[iV x33].length<=9223372036854775807) <|gu (((U4 iV v1).length+[iV x33].length) * 8<=140737488355328) <|some (.inl (.l0 (i64.wrap (v0+1)) (v1++[x33])))) (some (.inl (.l0 (i64.wrap (v0+1)) v1)))) (some (.inr ([some (bK (boL q.cl) 1),some (bK (U4 iV q.bw) 1),some (bK (U4 iV v1) 1)],AV.agg [AV.sl 0 0 (boL q.cl).length,AV.sl 1 0 q.bw.length,AV.sl 2 0 v1.length])))
def rcpStep(q:Aj)(w:Int):FS->Option (FS⊕Ret) | .l0 v0 v1=>Ij q w v0 v1
theorem rcp_ct(q:Aj)(w:Int)(r:Ret)(h:Ac (rcpStep q w) (Po q w) r):CT Vb 106 ([]) ([sgA q,.int .i64 w]) r.1 r.2:=
 CT.mach (fn:=Tryz.f106) (c:=zB Tryz.f106) (S:=(I9 q w)) (hd:=FS.ctorIdx) Tryz.func106 (by kernel_rfl) (nL rfl)
  (fun s o ho=>match s,ho with
 | .l0 v0 v1,ho=>Scr.ok (X:=Ij q w v0 v1) ho mix (
 .rn 0 [] [] [] [] (al (u2 (u2 (u2 (u2 (al t3)))))) <|
 .br (fun a0=>
 .gu fun a1=>
 .el fun x24 a2=>
 .rn 0 [37] [(24,iv x24)] [] [] (aj a0 (al (u2 (u2 (u2 (aj (k2 (aj a1 (Af (f:=iv) a2))) (u2 (u2 (al t3))))))))) <|
 .br (fun a3=>
  .el fun x33 a4=>
  .gu fun a5=>
  .gu fun a6=>
  .lq [55] [(33,iv x33)] [] [] [] [0,1,2,3,4,7] [1,2,4,5,6] (up [] [(2,[AV.agg [AV.sl 3 0 (boL q.cl).length,AV.sl 4 0 q.bw.length,AV.sl 5 0 ((U4 iv v1).length+[iv x33].length)]]),(5,U4 iv v1++[iv x33])] (I9 q w (.l0 (i64.wrap (v0+1)) (v1++[x33])))) (aj (aj a3 (aj (u2 (u2 (u2 (u2 (u2 (aj (k2 (aj a1 (Af (f:=iv) a4))) (u2 (u2 (aj (k2 (aj (show(U4 iv v1).length=v1.length by simp) (aj (aj (show nat_lit 1=nat_lit 1 from rfl) (show 1<=[iv x33].length by simp)) (aj a5 a6)))) (u2 (al t3))))))))))) (al (u2 (u2 s2))))) (k2 (k5 (aj (al t4) t4)))) (by simp[up,upF,upV,upH,upB,I9,gL,boL,lI]))
 (fun a3=>
  .lp [54] [] [] [] [] [0,1,2,3,4,5] [1,2,4,5,6] (aj (aj a3 (al (u2 (u2 s2)))) (k2 (k5 (aj (al t4) t4))))))
 (fun a0=>
 .rt [36] [] [] [] [3,4,5] [] (aj (aj a0 (al (u2 (al (k2 n11))))) (aj t4 t4)))) (by kernel_rfl)
  )
  (fun o ho=>Scr.ok (X:=Po q w) ho mix (
 .rn 0 [] [] [] [] (al (u2 t2)) <|
 .gu fun a0=>
 .gu fun a1=>
 .gu fun a2=>
 .gu fun a3=>
 .gu fun a4=>
 .gu fun a5=>
 .lq [] [] [] [] [(3005,1)] [0,1,4,2,3,5] [1,2,4,5,6] (up [] [(2,[AV.agg [AV.sl 3 0 (boL q.cl).length,AV.sl 4 0 (U4 iv q.bw).length,AV.sl 5 0 0]])] (I9 q w (.l0 ((0:Int)) ([])))) (aj (aj (u2 (u2 (aj (ak (aj a0 (aj a1 a2))) (u2 (u2 (aj (ak (aj a3 (aj a4 a5))) (aj t3 (ak (al (k2 n11)))))))))) s2) (k2 (k5 (aj (al t4) t4)))) (by simp[up,upF,upV,upH,upB,I9,gL,boL,lI])) (by kernel_rfl)) h
def Ph(n:Aa):Option (Empty⊕Ret):=gu (RwV n) <|br (Cr n != 0) (some (.inr ([],AV.tup [AV.agg [AV.nils,AV.nils,AV.nils],iV (Cr n)]))) (gu (0<=Bi n) <|gu (1 * Bi n<=281474976710656) <|gu (Bi n<=9223372036854775807) <|gu (0<=Bi n/\Bi n<=48) <|gu (∀(blk:Blk),blk∈[bK (U4 iV (U5 (Bi n).toNat (-1))) 1]->A5 blk) <|some (.inr ([],AV.tup [AV.agg [Va (U5 (Bi n).toNat (bV false)),Va (U4 iV (U5 (Bi n).toNat (-1))),AV.nils],iV 0])))
theorem n14_ct(n:Aa)(r:Ret)(h:Ac emT (Ph n) r):CT Vb 49 ([]) ([Ai n]) r.1 r.2:=
 CT.mach (fn:=Tryz.f49) (c:=zB Tryz.f49) (S:=emS) (hd:=emH) Tryz.func49 (by kernel_rfl) (nL rfl)
  (fun s o ho=>match s,ho with
   | x,_=>x.elim)
  (fun o ho=>Scr.ok (X:=Ph n) ho mix (
 .rn 0 [] [] [] [] (al (u2 t3)) <|
 .gu fun a0=>
 have c0:=Lm a0;
 .rn 1 [] [] [(8,hK c0 [] [])] [] (aj (u2 (aj (ak (aj t9 (al (c0)))) (u2 (u2 (u2 (u2 s2)))))) (al (u2 s2))) <|
 .br (fun a1=>
 .rt [25] [] [] [] [] [] (aj (aj a1 (al (ak (u2 (aj (k2 n11) s2))))) (al (aj t4 t2))))
 (fun a1=>
 .gu fun a2=>
 .gu fun a3=>
 .gu fun a4=>
 .gu fun a5=>
 .gu fun a6=>
 have c1:=rep_c (Bi n) a5;
 .rt [24] [] [(19,hK c1 [] [3])] [] [] [2,4] (aj (aj a1 (al (u2 (aj (k2 (aj a2 (aj (show Bi n<=Bi n by omega) (aj a3 a4)))) (ak (u2 (aj (k2 (aj (show nat_lit 1=nat_lit 1 from rfl) (ak (aj (c1) a6)))) (aj t3 (aj (k2 n11) t2))))))))) (al (aj (aj (show(Bi n).toNat=(U5 (Bi n).toNat (bV false)).length by simp) (aj (show(Bi n).toNat=(U4 iv (U5 (Bi n).toNat (-1))).length by simp) t2)) t2))))) (by kernel_rfl)) h
def wo(l:List Int)(x:Int):List Int:=l.filter (fun y=>y != x)
theorem ON{l:List Int}{x:Int}{i:Nat}(h:i<l.length):wo (l.take (i+1)) x=wo (l.take i) x++(if (l.getD i 0 != x)=true then [l.getD i 0] else []):=by unfold wo;rw[List.take_add_one,Ax 0 h,List.filter_append];congr 1;show List.filter _ [l.getD i 0]=_;rw[List.filter_cons];rfl
theorem wo_len(l:List Int)(x:Int):(wo l x).length<=l.length:=List.length_filter_le _ _
theorem MV(cl:List Bool)(bw pe:List Int)(w:Int)(h1:cl.length<=1000000)(h2:bw.length<=1000000)(h3:pe.length<=1000000):
  CT Vb 106 [] [sgA ⟨cl,bw,pe⟩,.int .i64 w] [some (Blk.mk (boL cl) 1 true true none),some (Blk.mk (bw.map (AV.int .i64)) 1 true true none),some (Blk.mk ((wo pe w).map (AV.int .i64)) 1 true true none)] (.agg [.sl 0 0 (boL cl).length,.sl 1 0 bw.length,.sl 2 0 (wo pe w).length]):=by
 refine rcp_ct ⟨cl,bw,pe⟩ w ([_,_,_],_) ?_;have hL:=A9 cl;unfold Po;rw[Ab (Ky _),Ab (by rw[hL];show cl.length<=_;omega),Ab (by rw[hL];show cl.length * 1<=_;omega),Ab (Gr _),Ab (by rw[Ui];show bw.length<=_;omega),Ab (by rw[Ui];show bw.length * 8<=_;omega)];refine Bm (fun i=>FS.l0 (i:Int) (wo (pe.take i) w)) pe.length (fun i hi h=>?_) ?_
 .refine .to (show Ij ⟨cl,bw,pe⟩ w i _=_ from ?_) h;have hw:=wo_len (pe.take i) w;rw[UF] at hw;unfold Ij;simp only;rw[C2 0 hi,ON hi];cases hx:pe.getD i 0 != w with
  | false=>rw[Ad rfl,Ue (by simp),List.append_nil,zW i (by omega)]
  | true=>rw[Ag rfl,elG 0 hi,Ab (by simp only[Ui,UR,US];omega),Ab (by simp only[Ui,UR,US];omega),Ud rfl,zW i (by omega)]
 .refine .to (show Ij ⟨cl,bw,pe⟩ w pe.length _=_ from ?_) (.ret _);unfold Ij;simp only;rw[AO,List.take_length]
theorem O3(l:List Bool)(hl:l.length<=1000000):CT Vb 45 [] [.lst (boL l)] [some (Blk.mk (boL l) 1 true true none)] (.sl 0 0 (boL l).length):=by
 have hL:=A9 l;by_cases h:l=[]
 .subst h;exact cl55_e
 refine clb_ct l ([_],_) (.val ?_);unfold LW;rw[Ab (fun e=>h (by unfold boL at e;exact List.map_eq_nil_iff.1 e)),Ab (Ky _),Ab (by omega),Ab (by omega),List.nil_append,Uu]
theorem Pg(l:List Int)(hl:l.length<=1000000):CT Vb 73 [] [lI l] [some (Blk.mk (l.map (AV.int .i64)) 1 true true none)] (.sl 0 0 l.length):=by
 by_cases h:l=[]
 .subst h;exact cl97_e
 refine cli_ct l ([_],_) (.val ?_);unfold OI;rw[Ab (fun e=>h (List.map_eq_nil_iff.1 e)),Ab (Gr _),Ab (by rw[Ui];omega),Ab (by rw[Ui];omega),List.nil_append,Uu,Ui]
theorem I7{n:Aa}(cl:List Bool)(bw pe:List Int)(hrw:RwV n):CT Vb 44 [] [Ai n,sgA ⟨cl,bw,pe⟩] [] (.bool (BC n ⟨cl,bw,pe⟩)):=by
 generalize hs:(⟨cl,bw,pe⟩:Aj)=s;refine sva_ct n s ([],_) ?_;unfold Nm BC Cr Bi;rw[Ab hrw];cases hv:A8 n with
 | false=>exact .ret _
 | true=>
 have hv:=BD.1 hv;obtain⟨h48,hnb⟩:=IM hv;unfold FY;rw[Ud rfl,Ud rfl,Ad (by rfl),A9,Ui,Ui,Ui,Bool.true_and];by_cases h1:s.cl.length=Al n
 case neg=>rw[Ag (UZ.2 (by simp only[iN];omega)),AA h1];exact .ret _
 rw[Ad (by rw[h1];simp),AB h1,Bool.true_and];by_cases h2:s.bw.length=Al n
 case neg=>rw[Ag (UZ.2 (by simp only[iN];omega)),AA h2];exact .ret _
 rw[Ad (by rw[h2];simp),AB h2,Bool.true_and];by_cases h3:n.bs.length<s.pe.length
 .rw[Ag (AB (by simp only[iN];omega))];have:(fnd (bdP n.bs.length s) 0 s.pe.length).isNone=false:=by
   cases hf:fnd (bdP n.bs.length s) 0 s.pe.length with
   | some i=>rfl
   | none=>
    have:=Ng (nb:=n.bs.length) (s:=s) (Uq _) fun j hj=>Jk hf j (Ur _) (by omega)
    omega
  rw[this,Bool.and_false];exact .ret _
 rw[Ad (AA (by simp only[iN];omega))];refine(K4 (fun i=>D3.l0 (i:Int)) s.bw.length (bdW s) (rF:=fun _=>(([],.bool false):Ret)) (r:=([],.bool (fnd (bdP n.bs.length s) 0 s.pe.length).isNone)) (fun i hi _ hp=>?_) (fun i x hi _ hp hx=>?_) (fun _=>?_)).res (by cases fnd (bdW s) 0 s.bw.length<;>rfl)
 .refine .to (show EM n s i=_ from ?_) (.ret _);unfold EM;unfold bdW at hp;rw[C2 0 hi];cases hd1:decide (s.bw.getD i 0 < -1) with
  | true=>rw[Ag rfl]
  | false=>
   rw[hd1,Ua] at hp;rw[Ad rfl];cases hd2:decide (8<=s.bw.getD i 0) with
   | true=>rw[Ag rfl]
   | false=>rw[hd2,Ua,Un] at hp;rw[Ad rfl,Ag hp.1,elG true (show i<s.cl.length by omega),Ag hp.2]
 .refine .to (show EM n s i=_ from ?_) hx;unfold EM;unfold bdW at hp;simp only[Bool.or_eq_false_iff] at hp;rw[C2 0 hi,Ad hp.1,Ad hp.2.1,zW i (by omega)];cases h0:decide (0<=s.bw.getD i 0) with
  | false=>rw[Ad rfl]
  | true=>have hq:=hp.2.2;rw[h0,Bool.true_and] at hq;rw[Ag rfl,elG true (show i<s.cl.length by omega),Ad hq]
 .refine .to (show EM n s s.bw.length=_ from ?_) ?_ (y:=some (.inl (.l1 ((0:Nat):Int))))
  .unfold EM;rw[AO];rfl
  refine(K4 (fun i=>D3.l1 (i:Int)) s.pe.length (bdP n.bs.length s) (rF:=fun _=>(([],.bool false):Ret)) (r:=([],.bool true)) (fun i hi hj hp=>?_) (fun i x hi hj hp hx=>?_) (fun _=>?_)).res (by cases fnd (bdP n.bs.length s) 0 s.pe.length<;>rfl)
  .refine .to (show ER n s i=_ from ?_) (.ret _);unfold ER;unfold bdP at hp;rw[C2 0 hi];by_cases hd1:s.pe.getD i 0<0
   .rw[Ag (AB hd1)]
   rw[AA hd1,Ua] at hp;rw[Ad (AA hd1)];by_cases hd2:(n.bs.length:Int)<=s.pe.getD i 0
   .rw[Ag (AB (by rw[Ui];exact hd2))]
   rw[AA hd2,Ua] at hp;rw[Ad (AA (by rw[Ui];exact hd2)),Ab (by omega),Ak (Ax true (show(s.pe.getD i 0).toNat<s.cl.length by omega))];cases hd3:s.cl.getD (s.pe.getD i 0).toNat true with
   | true=>rw[Ag rfl]
   | false=>rw[hd3,Ua] at hp;rw[Ad rfl,Ab (Gr _),Ab (by simp only[iN,Ui];omega),KX,Ab (by rw[UF];omega),Ag hp]
  .refine .to (show ER n s i=_ from ?_) hx;unfold ER;unfold bdP at hp;simp only[Bool.or_eq_false_iff,decide_eq_false_iff_not] at hp;rw[C2 0 hi,Ad (AA hp.1),Ad (AA (by rw[Ui];exact hp.2.1)),Ab (by omega),Ak (Ax true (show(s.pe.getD i 0).toNat<s.cl.length by omega)),Ad hp.2.2.1,Ab (Gr _),Ab (by simp only[iN,Ui];omega),KX,Ab (by rw[UF];omega),Ad hp.2.2.2,zW i (by omega)]
  .refine .to (show ER n s s.pe.length=_ from ?_) (.ret _);unfold ER;rw[AO]
theorem Oc{n:Aa}(cl:List Bool)(bw pe:List Int)(hrw:RwV n):CT Vb 118 [] [Ai n,sgA ⟨cl,bw,pe⟩] [] (.bool (BC n ⟨cl,bw,pe⟩)):=by
 refine r20v_ct n ⟨cl,bw,pe⟩ ([],_) (.val ?_);unfold O6 BC;rw[Ab hrw];cases hv:A8 n with
 | false=>rfl
 | true=>rw[Ag rfl,Ab (BD.1 hv)];rfl
def nsO(n:Aa):Aj:=⟨U5 (Al n) false,U5 (Al n) (-1),[]⟩
def nsE(n:Aa):Int:=if A8 n=true then 0 else 20
def nsS(n:Aa):Aj:=if A8 n=true then nsO n else ⟨[],[],[]⟩
theorem RV(k:Nat):U5 k (AV.bool false)=boL (U5 k false):=by unfold boL;rw[List.map_replicate]
theorem n14_c{n:Aa}(hrw:RwV n):CT Vb 49 [] [Ai n] [] (.tup [sgA (nsS n),.int .i64 (nsE n)]):=by
 have h:=n14_ct n;unfold Ph Cr Bi at h;unfold nsS nsE;cases hv:A8 n with
 | false=>rw[hv] at h;exact CT.w2 (h ([],_) (.val (by rw[Ab hrw];rfl)))
 | true=>
  have h48:=IM (BD.1 hv);rw[hv] at h;have k:=CT.w2 (h ([],.tup [.agg [.lst (U5 (Al n) (AV.bool false)),.lst (U4 (AV.int .i64) (U5 (Al n) (-1))),.nils],.int .i64 0]) (.val (by
   rw[Ab hrw,Ud rfl,Ud rfl,Ad (by rfl),Ab (by omega),Ab (by omega),Ab (by omega),Ab (by omega)];rw[Ab (fun blk hb=>by
    rw[T7.1 hb];intro e he c hc;obtain⟨x,_,rfl⟩:=UI.1 he;rw[T7.1 hc];rfl)]
   rfl)))
  rw[RV] at k;exact k
def ansEn(q:Int):Option (Empty⊕Ret):=some (.inr ([],AV.agg [iV q,iV 0]))
theorem ans_ct(q:Int)(r:Ret)(h:Ac emT (ansEn q) r):CT Vb 56 ([]) ([.int .i64 q]) r.1 r.2:=
 CT.mach (fn:=Tryz.f56) (c:=zB Tryz.f56) (S:=emS) (hd:=emH) Tryz.func56 (by kernel_rfl) (nL rfl)
  (fun s o ho=>match s,ho with
   | x,_=>x.elim)
  (fun o ho=>Scr.ok (X:=ansEn q) ho mix (
 .rt [] [] [] [] [] [] (aj (u2 (al (u2 (u2 (al (k2 n11)))))) (al t3))) (by kernel_rfl)) h
def NJ(q:Int):Option (Empty⊕Ret):=br (q==3) (some (.inr ([],iV 2))) (br (q==4) (some (.inr ([],iV 3))) (some (.inr ([],iV 5))))
theorem aft_ct(q:Int)(r:Ret)(h:Ac emT (NJ q) r):CT Vb 67 ([]) ([.int .i64 q]) r.1 r.2:=
 CT.mach (fn:=Tryz.f67) (c:=zB Tryz.f67) (S:=emS) (hd:=emH) Tryz.func67 (by kernel_rfl) (nL rfl)
  (fun s o ho=>match s,ho with
   | x,_=>x.elim)
  (fun o ho=>Scr.ok (X:=NJ q) ho mix (
 .rn 2 [] [] [] [] (u2 (aj s2 (al (u2 s2)))) <|
 .br (fun a0=>
 .rt [9] [] [] [] [] [] (aj (aj a0 s2) t2))
 (fun a0=>
 .rn 0 [8] [] [] [] (aj a0 (al (u2 s2))) <|
 .br (fun a1=>
  .rt [13] [] [] [] [] [] (aj (aj a1 s2) t2))
 (fun a1=>
  .rt [12] [] [] [] [] [] (aj (aj a1 s2) t2)))) (by kernel_rfl)) h
theorem AQ(q:Int):CT Vb 56 [] [.int .i64 q] [] (.agg [.int .i64 q,.int .i64 0]):=ans_ct q ([],_) (.val rfl)
@[irreducible] def BH(q:Int):Int:=match q==3 with | true=>2 | false=>match q==4 with | true=>3 | false=>5
theorem JL(q:Int):CT Vb 67 [] [.int .i64 q] [] (.int .i64 (BH q)):=by
 refine aft_ct q ([],_) (.val ?_);unfold NJ BH;cases q==3 with
 | true=>rfl
 | false=>cases q==4 with
  | true=>rfl
  | false=>rfl
theorem aftZ_rng(q:Int):0<=BH q/\BH q<=5:=by unfold BH;split;omega;split<;>omega
inductive E0 where | l0 (v0:Int) (v1:List Bool)
def NO(q:Aj):E0->St | .l0 v0 v1=>St.mk 23 [(1,AV.ptr 0 0 0),(3,AV.sl 1 0 (boL q.cl).length),(4,iv v0)] [some (bK [AV.agg [Va (boL q.cl),Va (U4 iv q.bw),Va (U4 iv q.pe)]] 3),some (bK (U4 bV v1) 1)]
def LU(q:Aj):Option (E0⊕Ret):=gu (∀(e:AV),e∈boL q.cl->e.cells.length=1) <|gu ((boL q.cl).length<=9223372036854775807) <|gu ((boL q.cl).length * 1<=140737488355328) <|some (.inl (.l0 ((0:Int)) (q.cl)))
def Is(q:Aj)(v0:Int)(v1:List Bool):Option (E0⊕Ret):=br (decide (v0<iN (U4 iV q.pe).length)) (gu (0<=v0) <|el (q.pe) (v0.toNat) fun(x19:Int)=>gu (0<=x19) <|gu (x19<iN (boL q.cl).length) <|gu ((0+x19.toNat).succ.le (U4 bV v1).length) <|some (.inl (.l0 (i64.wrap (v0+1)) (v1.set (0+x19.toNat) true)))) (some (.inr ([some (bK (U4 bV v1) 1)],AV.sl 0 0 (boL q.cl).length)))
def ceKStep(q:Aj):E0->Option (E0⊕Ret) | .l0 v0 v1=>Is q v0 v1
theorem ceK_ct(q:Aj)(r:Ret)(h:Ac (ceKStep q) (LU q) r):CT Vb 108 ([]) ([sgA q]) r.1 r.2:=
 CT.mach (fn:=Tryz.f108) (c:=zB Tryz.f108) (S:=(NO q)) (hd:=E0.ctorIdx) Tryz.func108 (by kernel_rfl) (nL rfl)
  (fun s o ho=>match s,ho with
 | .l0 v0 v1,ho=>Scr.ok (X:=Is q v0 v1) ho mix (
 .rn 0 [] [] [] [] (al (u2 (u2 (u2 (u2 (al t3)))))) <|
 .br (fun a0=>
 .gu fun a1=>
 .el fun x19 a2=>
 .gu fun a3=>
 .gu fun a4=>
 .gu fun a5=>
 .lq [25] [(19,iv x19)] [] [] [] [0,1] [1,3,4] (up [] [(1,(U4 bV v1).set (0+x19.toNat) (bV true))] (NO q (.l0 (i64.wrap (v0+1)) (v1.set (0+x19.toNat) true)))) (aj (aj a0 (aj (u2 (u2 (u2 (u2 (aj (k2 (aj a1 (Af (f:=iv) a2))) (u2 (aj (k2 (aj a3 a4)) (al (ak a5))))))))) (al (u2 (u2 s2))))) t6) (by simp[up,upF,upV,upH,upB,NO,gL,boL,lI]))
 (fun a0=>
 .rt [24] [] [] [] [1] [] (aj (aj a0 (al (u2 s2))) t3))) (by kernel_rfl)
  )
  (fun o ho=>Scr.ok (X:=LU q) ho mix (
 .rn 0 [] [] [] [] (al (u2 t2)) <|
 .gu fun a0=>
 .gu fun a1=>
 .gu fun a2=>
 .lp [] [] [] [] [] [0,1] [1,3,4] (aj (aj (u2 (u2 (aj (ak (aj a0 (aj a1 a2))) s2))) s2) t6)) (by kernel_rfl)) h
inductive Gd where | l0 (v0:List Int) (v1:Int)
def IK(l:List UsD):Gd->St | .l0 v0 v1=>St.mk 28 [(0,Va (U4 usA l)),(3,AV.sl 0 0 v0.length),(4,iv v1)] [some (bK (U4 iv v0) 1)]
def hoKEn(l:List UsD):Option (Gd⊕Ret):=some (.inl (.l0 ([]) ((0:Int))))
def IB(l:List UsD)(v0:List Int)(v1:Int):Option (Gd⊕Ret):=br (decide (v1<iN (U4 usA l).length)) (gu (0<=v1) <|el l (v1.toNat) fun(x13:UsD)=>br (Bh x13.s) (el l (v1.toNat) fun(x19:UsD)=>gu ((U4 iV v0).length+[iV x19.hm].length<=9223372036854775807) <|gu (((U4 iV v0).length+[iV x19.hm].length) * 8<=140737488355328) <|some (.inl (.l0 (v0++[x19.hm]) (i64.wrap (v1+1))))) (gu ((U4 iV v0).length+1<=9223372036854775807) <|gu (((U4 iV v0).length+1) * 8<=140737488355328) <|some (.inl (.l0 (v0++[-2]) (i64.wrap (v1+1)))))) (some (.inr ([some (bK (U4 iV v0) 1)],AV.sl 0 0 v0.length)))
def Ro(l:List UsD):Gd->Option (Gd⊕Ret) | .l0 v0 v1=>IB l v0 v1
theorem hoK_ct(l:List UsD)(r:Ret)(h:Ac (Ro l) (hoKEn l) r):CT Vb 116 ([]) ([.lst (l.map usA)]) r.1 r.2:=
 CT.mach (fn:=Tryz.f116) (c:=zB Tryz.f116) (S:=(IK l)) (hd:=Gd.ctorIdx) Tryz.func116 (by kernel_rfl) (nL rfl)
  (fun s o ho=>match s,ho with
 | .l0 v0 v1,ho=>Scr.ok (X:=IB l v0 v1) ho mix (
 .rn 0 [] [] [] [] (al (u2 (u2 (u2 (al t3))))) <|
 .br (fun a0=>
 .gu fun a1=>
 .el fun x13 a2=>
 have c0:=LY (x13.s) (x13.lv) (x13.hm);
 .rn 0 [17] [(13,usA x13)] [(15,hK c0 [] [])] [] (aj a0 (al (u2 (u2 (aj (k2 (aj a1 (Af (f:=usA) a2))) (u2 (al (ak (aj (k5 t9) (al (c0))))))))))) <|
 .br (fun a3=>
  .el fun x19 a4=>
  .gu fun a5=>
  .gu fun a6=>
  .lq [31] [(19,usA x19)] [] [] [] [2] [0,3,4] (up [(3,AV.sl 0 0 ((U4 iv v0).length+[iv x19.hm].length))] [(0,U4 iv v0++[iv x19.hm])] (IK l (.l0 (v0++[x19.hm]) (i64.wrap (v1+1))))) (aj (aj a3 (aj (u2 (u2 (u2 (aj (k2 (aj a1 (Af (f:=usA) a4))) (u2 (u2 (u2 (aj (k2 (aj (show(U4 iv v0).length=v0.length by simp) (aj (aj (show nat_lit 1=nat_lit 1 from rfl) (show 1<=[iv x19.hm].length by simp)) (aj a5 a6)))) s2)))))))) (al (u2 (u2 s2))))) t5) (by simp[up,upF,upV,upH,upB,IK,gL,boL,lI,usA]))
 (fun a3=>
  .gu fun a4=>
  .gu fun a5=>
  .lq [30] [] [] [] [] [2] [0,3,4] (up [(3,AV.sl 0 0 ((U4 iv v0).length+1))] [(0,U4 iv v0++[iv (-2)])] (IK l (.l0 (v0++[-2]) (i64.wrap (v1+1))))) (aj (aj a3 (aj (u2 (ak (aj (k2 (aj (show(U4 iv v0).length=v0.length by simp) (aj (aj (show nat_lit 1=nat_lit 1 from rfl) (show nat_lit 1<=nat_lit 1 from(by first | exact nL rfl | decide))) (aj a4 a5)))) s2))) (al (u2 (u2 s2))))) t5) (by simp[up,upF,upV,upH,upB,IK,gL,boL,lI,usA])))
 (fun a0=>
 .rt [16] [] [] [] [0] [] (aj (aj a0 (al (u2 s2))) t3))) (by kernel_rfl)
  )
  (fun o ho=>Scr.ok (X:=hoKEn l) ho mix (
 .lp [] [] [] [] [(3,1)] [0] [0,3,4] (aj (u2 (u2 s2)) t5)) (by kernel_rfl)) h
theorem NA(s:Aj)(hl:s.cl.length<=1000000)(hp:s.pe.length<=1000000)(hb:∀b∈s.pe,0<=b/\b<(s.cl.length:Int)):CT Vb 108 [] [sgA s] [some (Blk.mk (boL (AD s)) 1 true true none)] (.sl 0 0 (AD s).length):=by
 refine ceK_ct s ([_],_) ?_;have hL:=A9 s.cl;unfold LU;rw[Ab (Ky _),Ab (by omega),Ab (by omega)];refine Oi (L:=fun i b=>E0.l0 (i:Int) b) (f:=fun c b=>c.set b.toNat true) (l:=s.pe) s.cl (fun i x hx h=>?_) ?_
 .have hlen:=KC (s.pe.take i) s.cl;have h2:=hb x (Uj hx);have hi:=(Uh.1 hx).1;generalize (s.pe.take i).foldl (fun c b=>c.set b.toNat true) s.cl=c at *;refine .to (show Is s i c=_ from ?_) h;unfold Is;rw[AS hx,Ab h2.1,Ab (by simp only[iN];omega),Ab (show Nat.le _ _ from(by simp only[Ui];show 0+x.toNat+1<=_;omega)),zW i (by omega),Uu]
 .refine .to (show Is s s.pe.length (AD s)=_ from ?_) (.ret _);unfold Is;rw[AO,hL,DX];rfl
theorem hoK_c(l:List UsD)(hl:l.length<=1000000):CT Vb 116 [] [.lst (l.map usA)] [some (Blk.mk ((hoL l).map (AV.int .i64)) 1 true true none)] (.sl 0 0 (hoL l).length):=by
 refine hoK_ct l ([_],_) ?_;rw[Qz];have key:∀(d i:Nat),i+d=l.length->Ac (Ro l) (some (.inl (.l0 ((l.take i).map hoF) (i:Int)))) (([some (Blk.mk ((l.map hoF).map (AV.int .i64)) 1 true true none)],.sl 0 0 (l.map hoF).length):Ret):=by
  intro d;induction d with
  | zero=>
   intro i hi;obtain rfl:i=l.length:=by omega
   refine .to (show IB l _ (l.length:Nat)=_ from rfl) ?_;unfold IB;rw[AO,List.take_length];exact .ret _
  | succ d ih=>
   intro i hi;have hx:l[i]?=some l[i]:=Uf (by omega);have e:(l.take (i+1)).map hoF=(l.take i).map hoF++[hoF l[i]]:=by rw[List.take_add_one,hx,Us];rfl
   have:=ih (i+1) (by omega);rw[e] at this;have hl2:(l.take i).length<=i:=by rw[UF];omega
   refine .to (show IB l _ (i:Nat)=_ from rfl) ?_;unfold IB;rw[AS hx,Bk i (by omega),Uo];cases q:Bh l[i].s with
   | true=>rw[Ag rfl,Ak hx,Ab (by simp only[Ui,UQ];omega),Ab (by simp only[Ui,UQ];omega)];rw[show hoF l[i]=l[i].hm by unfold hoF;rw[Ud q]] at this;exact this
   | false=>rw[Ad rfl,Ab (by simp only[Ui,UQ];omega),Ab (by simp only[Ui,UQ];omega)];rw[show hoF l[i] = -2 by unfold hoF;rw[Ue (by rw[q];simp)]] at this;exact this
 exact key l.length 0 (by omega)
inductive E6 where | l0 (v0:Bool) (v1:Av) (v2:Int)
def cOpSt(n:Aa)(sh:List Bool)(sp:Int):E6->St | .l0 v0 v1 v2=>St.mk 62 [(1,Va (boL sh)),(9,AV.ptr 0 0 0),(10,bV v0),(45,iv v1.k),(46,iv v2)] [some (bK [sA v1] 6)]
def Mk(n:Aa)(sh:List Bool)(sp:Int):Option (E6⊕Ret):=gu (RwV n) <|br (csE n sp != 0) (some (.inr ([],AV.tup [bV false,iV (csE n sp)]))) (gu (Aq n) <|br (iN (boL sh).length != iN (Al n)) (some (.inr ([],AV.tup [bV false,iV 19]))) (gu (0<=sp) <|el (n.ss) (sp.toNat) fun(x28:Av)=>gu (0<=x28.i) <|el (sh) (x28.i.toNat) fun(x33:Bool)=>br (!x33) (gu (0<=x28.o) <|el (sh) (x28.o.toNat) fun(x40:Bool)=>some (.inl (.l0 (!x40) x28 ((0:Int))))) (some (.inl (.l0 (false) x28 ((0:Int)))))))
def F7(n:Aa)(sh:List Bool)(sp:Int)(v0:Bool)(v1:Av)(v2:Int):Option (E6⊕Ret):=br (decide (v2<v1.k)) (br v0 (gu (0<=i64.wrap (v1.b+v2)) <|el (sh) ((i64.wrap (v1.b+v2)).toNat) fun(x56:Bool)=>some (.inl (.l0 (!x56) v1 (i64.wrap (v2+1))))) (some (.inl (.l0 (false) v1 (i64.wrap (v2+1)))))) (some (.inr ([],AV.tup [bV v0,iV 0])))
def Qt(n:Aa)(sh:List Bool)(sp:Int):E6->Option (E6⊕Ret) | .l0 v0 v1 v2=>F7 n sh sp v0 v1 v2
theorem cOp_ct(n:Aa)(sh:List Bool)(sp:Int)(r:Ret)(h:Ac (Qt n sh sp) (Mk n sh sp) r):CT Vb 76 ([]) ([Ai n,.lst (boL sh),.int .i64 sp]) r.1 r.2:=
 CT.mach (fn:=Tryz.f76) (c:=zB Tryz.f76) (S:=(cOpSt n sh sp)) (hd:=E6.ctorIdx) Tryz.func76 (by kernel_rfl) (nL rfl)
  (fun s o ho=>match s,ho with
 | .l0 v0 v1 v2,ho=>Scr.ok (X:=F7 n sh sp v0 v1 v2) ho mix (
 .rn 0 [] [] [] [] (al (al t3)) <|
 .br (fun a0=>
 .rn 0 [95] [] [] [] (aj a0 (al (u2 s2))) <|
 .br (fun a1=>
  .gu fun a2=>
  .el fun x56 a3=>
  .lp [101] [(56,bV x56)] [] [] [] [0] [1,9,10,45,46] (aj (aj (u2 (u2 (ag a1 (ag a1 (ag a1 (ag a1 (aj (aj a1 t3) (aj (aj a1 (k2 (aj a2 (Af (f:=bV) a3)))) (ag a1 (ag a1 (ag a1 s2))))))))))) (al (u2 s2))) t7))
 (fun a1=>
  .lp [100] [] [] [] [] [0] [1,9,10,45,46] (aj (aj (u2 (u2 (aj a1 (aj a1 (aj a1 (aj a1 (aj a1 (aj a1 (aj a1 (aj a1 (ag a1 s2))))))))))) (al (u2 s2))) t7)))
 (fun a0=>
 .rt [94] [] [] [] [] [] (aj (aj a0 (al (u2 (u2 t2)))) (al t3)))) (by kernel_rfl)
  )
  (fun o ho=>Scr.ok (X:=Mk n sh sp) ho mix (
 .rn 0 [] [] [] [] (al (u2 t3)) <|
 .gu fun a0=>
 have c0:=SK a0 (sp);
 .rn 1 [] [] [(14,hK c0 [] [])] [] (aj (u2 (u2 (aj (k2 (aj t9 (ak (al (c0))))) s2))) (al (u2 (u2 s2)))) <|
 .br (fun a1=>
 .rt [31] [] [] [] [] [] (aj (aj a1 (al (u2 (ak s2)))) (al t3)))
 (fun a1=>
 .gu fun a2=>
 have c1:=NW a2;
 .rn 0 [30] [] [(23,hK c1 [] [])] [] (aj a1 (al (u2 (u2 (u2 (aj (ak (aj t9 (al (c1)))) (aj t3 s2))))))) <|
 .br (fun a3=>
  .rt [39] [] [] [] [] [] (aj (aj a3 (al t3)) (al t3)))
 (fun a3=>
  .gu fun a4=>
  .el fun x28 a5=>
  .rn 0 [38] [(28,sA x28)] [] [] (aj a3 (al (u2 (u2 (u2 (aj (k2 (aj a4 (Af (f:=sA) a5))) (u2 (ak (al (k2 n11)))))))))) <|
  .gu fun a6=>
  .el fun x33 a7=>
  .br (fun a8=>
  .gu fun a9=>
  .el fun x40 a10=>
  .lp [73] [(33,bV x33),(40,bV x40)] [] [] [] [1] [1,9,10,45,46] (aj (aj (u2 (u2 (u2 (aj (k2 (aj a6 (Af (f:=bV) a7))) (u2 (u2 (u2 (ag a8 (ag a8 (ag a8 (aj (aj a8 (k2 (aj a9 (Af (f:=bV) a10)))) (ag a8 (ag a8 (ag a8 s2)))))))))))))) (al (u2 (u2 t2)))) t7))
  (fun a8=>
  .lp [72] [(33,bV x33)] [] [] [] [1] [1,9,10,45,46] (aj (aj (u2 (u2 (u2 (aj (k2 (aj a6 (Af (f:=bV) a7))) (u2 (u2 (u2 (aj a8 (aj a8 (aj a8 (aj a8 (aj a8 (aj a8 (ag a8 s2)))))))))))))) (al (u2 (u2 t2)))) t7))))) (by kernel_rfl)) h
def cOB(n:Aa)(sh:List Bool)(sp:Int):Bool:=A8 n&&decide (0<=sp)&&decide (sp<n.ss.length)&&decide (sh.length=Al n)&&opB n sh sp
def cOE(n:Aa)(sh:List Bool)(sp:Int):Int:=if csE n sp=0 then (if sh.length=Al n then 0 else 19) else csE n sp
def shB(sh:List Bool)(s:Av)(j:Nat):Bool:=sh.getD (s.b+(j:Int)).toNat false
theorem fnd_or{p:Nat->Bool}:∀(k i:Nat),(fnd p i (k+1)).isSome=((fnd p i k).isSome||p (i+k)):=by
 intro k;induction k with
 | zero=>intro i;simp only[fnd,T4];cases p i<;>rfl
 | succ k ih=>
  intro i;have h:=ih (i+1);rw[show i+(k+1)=i+1+k by omega];show(fnd p i ((k+1)+1)).isSome=((fnd p i (k+1)).isSome||p (i+1+k));unfold fnd;cases p i with
  | true=>rfl
  | false=>exact h
def opJ(sh:List Bool)(s:Av)(j:Nat):Bool:= !(sh.getD s.i.toNat false)&&!(sh.getD s.o.toNat false)&&!(fnd (shB sh s) 0 j).isSome
theorem opJ_succ(sh:List Bool)(s:Av)(j:Nat):opJ sh s (j+1)=(opJ sh s j&&!shB sh s j):=by unfold opJ;rw[fnd_or,Uu];cases sh.getD s.i.toNat false<;>cases sh.getD s.o.toNat false<;>cases (fnd (shB sh s) 0 j).isSome<;>cases shB sh s j<;>rfl
theorem opJ_end(sh:List Bool)(s:Av):opJ sh s s.k.toNat=Jj sh s:=rfl
theorem NX{sh:List Bool}{c:Int}(h0:0<=c)(h1:c<sh.length):sh[c.toNat]?=some (sh.getD c.toNat false):=by
 have hl:c.toNat<sh.length:=by omega
 rw[Ug,Uf hl];rfl
theorem P7{n:Aa}(hrw:RwV n)(sh:List Bool)(sp:Int):CT Vb 76 [] [Ai n,.lst (boL sh),.int .i64 sp] [] (.tup [.bool (cOB n sh sp),.int .i64 (cOE n sh sp)]):=by
 refine cOp_ct n sh sp ([],_) ?_;unfold Mk cOB cOE;rw[Ab hrw];by_cases h:csE n sp=0
 .obtain⟨hv,h0,h1⟩:=csE_zero h;obtain⟨i,rfl⟩:∃i:Nat,sp=i:=⟨sp.toNat,by omega⟩;obtain⟨s,hs⟩:∃s,n.ss[i]?=some s:=⟨_,Uf (by omega)⟩;have e:=hv.ends hs;have sb:=hv.sb hs;rw[Ad (by simp[h]),Ab hv,Ud h,BD.2 hv,AB h0,AB h1];by_cases hl:sh.length=Al n
  .rw[Ad (by simp[iN,boL,hl]),Ab h0,Uo,Ak hs,Ab e.1,Ak (NX e.1 (by omega)),AB hl,Ud hl];have ho:opB n sh (i:Int)=Jj sh s:=by unfold opB;rw[Uo,hs]
   rw[ho,<-opJ_end];simp only[Bool.true_and];have loop:Ac (Qt n sh (i:Int)) (some (.inl (.l0 (opJ sh s 0) s 0))) (([],.tup [.bool (opJ sh s s.k.toNat),.int .i64 0]):Ret):=by
    refine Bm (fun j=>E6.l0 (opJ sh s j) s (j:Int)) s.k.toNat (fun j hj hr=>.to ?_ hr) (.to ?_ (.ret _))
    .show F7 n sh i _ s j=_;unfold F7;rw[Ag (AB (by omega)),opJ_succ,A3 (s.b+(j:Int)) (by omega) (by omega),zW j (by omega)];cases opJ sh s j with
     | false=>rfl
     | true=>rw[Ag rfl,Ab (by omega),Ak (NX (by omega) (by omega))];rfl
    .show F7 n sh i _ s _=_;unfold F7;rw[Ad (AA (by omega))]
   have z:opJ sh s 0=(!(sh.getD s.i.toNat false)&&!(sh.getD s.o.toNat false)):=by unfold opJ;simp[fnd]
   rw[z] at loop;cases h3:sh.getD s.i.toNat false with
   | true=>rw[h3] at loop;exact loop
   | false=>rw[h3] at loop;rw[Ag (by rfl),Ab (by omega),Ak (NX e.2.2.1 (by omega))];exact loop
  .rw[Ag (by simp[iN,boL];omega),AA hl,Ue hl];simp;exact .ret _
 .rw[Ag (by simpa using h),Ue h];have:(A8 n&&decide (0<=sp)&&decide (sp<n.ss.length))=false:=by
   cases hv:A8 n with
   | false=>rfl
   | true=>
    unfold csE at h;rw[Ud hv] at h;by_cases a:0<=sp
    .by_cases b:sp<n.ss.length
     .rw[Ue (by omega)] at h;exact absurd rfl h
     .simp[b]
    .simp[a]
  rw[this];exact .ret _
theorem PQ{n:Aa}(hv:Aq n){sh:List Bool}(hl:sh.length=Al n){sp:Int}(h:0<=sp/\sp<n.ss.length):cOB n sh sp=opB n sh sp:=by unfold cOB;rw[BD.2 hv,AB h.1,AB h.2,AB hl];rfl
def MD(n:Aa)(sh:List Bool)(fl:Int):Option (Empty⊕Ret):=gu (RwV n) <|br (Cr n != 0) (some (.inr ([],iV (Cr n)))) (br (iN (boL sh).length != Bi n) (some (.inr ([],iV 19))) (br (decide (fl<0)) (some (.inr ([],iV 19))) (br (decide (8<fl)) (some (.inr ([],iV 19))) (some (.inr ([],iV 0))))))
theorem chc_ct(n:Aa)(sh:List Bool)(fl:Int)(r:Ret)(h:Ac emT (MD n sh fl) r):CT Vb 46 ([]) ([Ai n,.lst (boL sh),.int .i64 fl]) r.1 r.2:=
 CT.mach (fn:=Tryz.f46) (c:=zB Tryz.f46) (S:=emS) (hd:=emH) Tryz.func46 (by kernel_rfl) (nL rfl)
  (fun s o ho=>match s,ho with
   | x,_=>x.elim)
  (fun o ho=>Scr.ok (X:=MD n sh fl) ho mix (
 .rn 0 [] [] [] [] (al (u2 t2)) <|
 .gu fun a0=>
 have c0:=Lm a0;
 .rn 1 [] [] [(11,hK c0 [] [])] [] (aj (u2 (aj (ak (aj t9 (al (c0)))) (u2 (u2 (u2 (u2 s2)))))) (al (u2 (u2 s2)))) <|
 .br (fun a1=>
 .rt [29] [] [] [] [] [] (aj (aj a1 (al (u2 s2))) t2))
 (fun a1=>
 .br (fun a2=>
  .rt [28,47] [] [] [] [] [] (aj (aj a1 (aj (u2 (u2 (u2 (aj t3 (u2 (aj a2 (aj a2 (ag a2 (u2 (k2 (aj t3 s2))))))))))) (ak s2))) t2))
 (fun a2=>
  .br (fun a3=>
  .rt [28,46,55] [] [] [] [] [] (aj (aj a1 (aj (u2 (u2 (u2 (aj t3 (u2 (ag a2 (ag a2 (ag a2 (u2 (aj a3 (aj a3 (ag a3 s2)))))))))))) (ak s2))) t2))
  (fun a3=>
  .rn 0 [28,46,54] [] [] [] (aj a1 (al (u2 (u2 (u2 (aj t3 (u2 (ag a2 (ag a2 (ag a2 (u2 (ag a3 (ag a3 (ag a3 s2)))))))))))))) <|
  .br (fun a4=>
   .rt [46,54,37] [] [] [] [] [] (aj (aj a4 s2) t2))
  (fun a4=>
   .rt [46,54,36] [] [] [] [] [] (aj (aj a4 s2) t2)))))) (by kernel_rfl)) h
def Pd(sh:List Bool)(c:Int):Option (Empty⊕Ret):=gu (∀(e:AV),e∈boL sh->e.cells.length=1) <|gu ((boL sh).length<=9223372036854775807) <|gu ((boL sh).length * 1<=140737488355328) <|gu (0<=c) <|gu (c<iN (boL sh).length) <|gu ((0+c.toNat).succ.le (boL sh).length) <|some (.inr ([],Va ((boL sh).set (0+c.toNat) (bV true))))
theorem wth_ct(sh:List Bool)(c:Int)(r:Ret)(h:Ac emT (Pd sh c) r):CT Vb 147 ([]) ([.lst (boL sh),.int .i64 c]) r.1 r.2:=
 CT.mach (fn:=Tryz.f147) (c:=zB Tryz.f147) (S:=emS) (hd:=emH) Tryz.func147 (by kernel_rfl) (nL rfl)
  (fun s o ho=>match s,ho with
   | x,_=>x.elim)
  (fun o ho=>Scr.ok (X:=Pd sh c) ho mix (
 .rn 0 [] [] [] [] s2 <|
 .gu fun a0=>
 .gu fun a1=>
 .gu fun a2=>
 .rn 0 [] [] [] [] (al (u2 (aj (ak (aj a0 (aj a1 a2))) s2))) <|
 .gu fun a3=>
 .gu fun a4=>
 .gu fun a5=>
 .rt [] [] [] [] [] [0] (aj (aj (u2 (u2 (aj (k2 (aj a3 a4)) (al (ak a5))))) (al (u2 s2))) (al (show(boL sh).length=((boL sh).set (0+c.toNat) (bV true)).length by simp)))) (by kernel_rfl)) h
def muA(n:Nat->Bool)(b:Nat->Bool)(k:Int):EK:=.l1 k (n 0) (n 1) (n 2) (n 3) (n 4) (n 5) (n 6) (n 7) (n 8) (n 9) (n 10) (n 11) (n 12) (n 13) (n 14) (n 15) (n 16) (n 17) (n 18) (n 19) (n 20) (n 21) (n 22) (n 23) (b 0) (b 1) (b 2) (b 3) (b 4) (b 5) (b 6) (b 7) (b 8) (b 9) (b 10) (b 11) (b 12) (b 13) (b 14) (b 15) (b 16) (b 17) (b 18) (b 19) (b 20) (b 21) (b 22) (b 23)
theorem mut_c{g:List (List Int)}{s:List Bool}(hrw:VG g):CT Vb 48 [] [.lst (gL g),.lst (boL s)] [] (.tup [.bool (muB g s),.int .i64 (CE g s)]):=by
 refine mut_ct g s ([],_) ?_;unfold Nx;rw[Ab hrw,J0];have hlg:=BZ g;have hlb:=A9 s;cases hv:Cd g with
 | false=>
  have:rvE g=20:=by unfold rvE;rw[hv];rfl
  rw[this,Ue (by simp),Ez (fun h=>by have:=h.1;rw[J0,hv] at this;cases this)];exact .ret _
 | true=>
  have hE:rvE g=0:=by unfold rvE;rw[Ud hv]
  have hO:rvO g=An g:=by unfold rvO;rw[Ud hv]
  rw[hE,Ad (by rfl),Ud rfl];by_cases hl:s.length≠g.length
  .rw[Ag (UZ.2 (by rw[hlb,hlg];simp only[iN];omega)),Ud hl,Ez (fun h=>by have:=h.1;rw[J0,Ud hv,Ud hl] at this;cases this)];exact .ret _
  rw[Ad (by rw[hlb,hlg];simp only[Decidable.not_not] at hl;rw[hl];simp),Ue hl];have hl:s.length=g.length:=by omega
  have hc:CE g s=0:=by rw[J0,Ud hv,Ue (by omega)]
  have hg:=Pm hrw hv;have hg2:=revG_gok hrw hv;have hrl:(An g).length=g.length:=Jr g _;have h24:=hg.len;have key:∀(j k:Nat),k+j=g.length->(∀v,v<k->s.getD v true=true)->Ac (L7 g s) (some (.inl (.l0 (k:Int)))) (([],.tup [.bool (muB g s),.int .i64 0]):Ret):=by
   intro j;induction j with
   | zero=>
    intro k hk hall;refine .to (show EF g s k=some (.inr ([],.tup [.bool false,.int .i64 0])) from ?_) ?_
    .unfold EF;rw[Ad (AA (by rw[hlb];simp only[iN];omega))]
    .rw[Ez fun⟨_,⟨v,hv⟩,_⟩=>by rw[hall v (by have:=GO hv;omega)] at hv;cases hv];exact .ret _
   | succ j ih=>
    intro k hk hall;have hkl:k<s.length:=by omega
    have hsk:=Ax true hkl;have wk:=zW k (by omega);cases hso:s.getD k true with
    | true=>
     refine .to (show EF g s k=some (.inl (.l0 ((k+1:Nat):Int))) from ?_) (ih (k+1) (by omega) fun v hv=>?_)
     .unfold EF;rw[Ag (AB (by rw[hlb];simp only[iN];omega)),Ab (by omega),Uo,Ak hsk,hso,Ag rfl,wk]
     .rcases U3 v k with h | h
      .exact hall v h
      .have:v=k:=by omega
       subst this;exact hso
    | false=>
     refine .to (show EF g s k=some (.inl (muA (mkB g s k) (mkB (An g) s k) 0)) from ?_) ?_
     .unfold EF;rw[Ag (AB (by rw[hlb];simp only[iN];omega)),Ab (by omega),Uo,Ak hsk,hso,Ad rfl,Ab hg,Ab hl,Ab ⟨by omega,by simp only[iN];omega⟩,hO,Ab hg2,Ab (by omega),Ab ⟨by omega,by simp only[iN];omega⟩];rfl
     have inner:∀(i q:Nat),q+i=g.length->(∀w,w<q->s.getD w true=false->Rcv g s k w/\Rcv g s w k)->Ac (L7 g s) (some (.inl (muA (mkB g s k) (mkB (An g) s k) (q:Int)))) (([],.tup [.bool (muB g s),.int .i64 0]):Ret):=by
      intro i;induction i with
      | zero=>
       intro q hq hok;refine .to (show CG g s q (mkB g s k 0) (mkB g s k 1) (mkB g s k 2) (mkB g s k 3) (mkB g s k 4) (mkB g s k 5) (mkB g s k 6) (mkB g s k 7) (mkB g s k 8) (mkB g s k 9) (mkB g s k 10) (mkB g s k 11) (mkB g s k 12) (mkB g s k 13) (mkB g s k 14) (mkB g s k 15) (mkB g s k 16) (mkB g s k 17) (mkB g s k 18) (mkB g s k 19) (mkB g s k 20) (mkB g s k 21) (mkB g s k 22) (mkB g s k 23) (mkB (An g) s k 0) (mkB (An g) s k 1) (mkB (An g) s k 2) (mkB (An g) s k 3) (mkB (An g) s k 4) (mkB (An g) s k 5) (mkB (An g) s k 6) (mkB (An g) s k 7) (mkB (An g) s k 8) (mkB (An g) s k 9) (mkB (An g) s k 10) (mkB (An g) s k 11) (mkB (An g) s k 12) (mkB (An g) s k 13) (mkB (An g) s k 14) (mkB (An g) s k 15) (mkB (An g) s k 16) (mkB (An g) s k 17) (mkB (An g) s k 18) (mkB (An g) s k 19) (mkB (An g) s k 20) (mkB (An g) s k 21) (mkB (An g) s k 22) (mkB (An g) s k 23)=some (.inr ([],.tup [.bool true,.int .i64 0])) from ?_) ?_
       .unfold CG;rw[Ad (AA (by rw[hlb];simp only[iN];omega))]
       .rw[muB_t ⟨hc,⟨k,hso⟩,fun v w hv hw=>(hok v (by have:=GO hv;omega) hv).2.trans (hok w (by have:=GO hw;omega) hw).1⟩];exact .ret _
      | succ i ihi=>
       intro q hq hok;have hql:q<s.length:=by omega
       have hsq:=Ax true hql;have wq:=zW q (by omega);have ga:=MX (mkB g s k) (k:=q) (by omega);have gb:=MX (mkB (An g) s k) (k:=q) (by omega);have nxt:(s.getD q true=false->Rcv g s k q/\Rcv g s q k)->∀w,w<q+1->s.getD w true=false->Rcv g s k w/\Rcv g s w k:=fun h w hw ho=>by
        rcases U3 w q with h1 | h1
        .exact hok w h1 ho
        .have:w=q:=by omega
         subst this;exact h ho
       cases hsqo:s.getD q true with
       | true=>refine .to (show CG g s q (mkB g s k 0) (mkB g s k 1) (mkB g s k 2) (mkB g s k 3) (mkB g s k 4) (mkB g s k 5) (mkB g s k 6) (mkB g s k 7) (mkB g s k 8) (mkB g s k 9) (mkB g s k 10) (mkB g s k 11) (mkB g s k 12) (mkB g s k 13) (mkB g s k 14) (mkB g s k 15) (mkB g s k 16) (mkB g s k 17) (mkB g s k 18) (mkB g s k 19) (mkB g s k 20) (mkB g s k 21) (mkB g s k 22) (mkB g s k 23) (mkB (An g) s k 0) (mkB (An g) s k 1) (mkB (An g) s k 2) (mkB (An g) s k 3) (mkB (An g) s k 4) (mkB (An g) s k 5) (mkB (An g) s k 6) (mkB (An g) s k 7) (mkB (An g) s k 8) (mkB (An g) s k 9) (mkB (An g) s k 10) (mkB (An g) s k 11) (mkB (An g) s k 12) (mkB (An g) s k 13) (mkB (An g) s k 14) (mkB (An g) s k 15) (mkB (An g) s k 16) (mkB (An g) s k 17) (mkB (An g) s k 18) (mkB (An g) s k 19) (mkB (An g) s k 20) (mkB (An g) s k 21) (mkB (An g) s k 22) (mkB (An g) s k 23)=some (.inl (muA (mkB g s k) (mkB (An g) s k) ((q+1:Nat):Int))) from ?_) (ihi (q+1) (by omega) (nxt fun h=>by rw[hsqo] at h;cases h));unfold CG;rw[Ag (AB (by rw[hlb];simp only[iN];omega)),Ab (by omega),Uo,Ak hsq,hsqo,Ad (by rfl),wq];rfl
       | false=>
        cases hm:mkB g s k q with
        | false=>
         refine .to (show CG g s q (mkB g s k 0) (mkB g s k 1) (mkB g s k 2) (mkB g s k 3) (mkB g s k 4) (mkB g s k 5) (mkB g s k 6) (mkB g s k 7) (mkB g s k 8) (mkB g s k 9) (mkB g s k 10) (mkB g s k 11) (mkB g s k 12) (mkB g s k 13) (mkB g s k 14) (mkB g s k 15) (mkB g s k 16) (mkB g s k 17) (mkB g s k 18) (mkB g s k 19) (mkB g s k 20) (mkB g s k 21) (mkB g s k 22) (mkB g s k 23) (mkB (An g) s k 0) (mkB (An g) s k 1) (mkB (An g) s k 2) (mkB (An g) s k 3) (mkB (An g) s k 4) (mkB (An g) s k 5) (mkB (An g) s k 6) (mkB (An g) s k 7) (mkB (An g) s k 8) (mkB (An g) s k 9) (mkB (An g) s k 10) (mkB (An g) s k 11) (mkB (An g) s k 12) (mkB (An g) s k 13) (mkB (An g) s k 14) (mkB (An g) s k 15) (mkB (An g) s k 16) (mkB (An g) s k 17) (mkB (An g) s k 18) (mkB (An g) s k 19) (mkB (An g) s k 20) (mkB (An g) s k 21) (mkB (An g) s k 22) (mkB (An g) s k 23)=some (.inr ([],.tup [.bool false,.int .i64 0])) from ?_) ?_
         .unfold CG;rw[Ag (AB (by rw[hlb];simp only[iN];omega)),Ab (by omega),Uo,Ak hsq,hsqo,Ag (by rfl),Ab (by omega),Ak ga,hm,Ag (by rfl)]
         .rw[Ez fun h=>by
           have:=EE.2 (h.2.2 k q hso hsqo);rw[hm] at this;cases this]
          exact .ret _
        | true=>
         cases hm2:mkB (An g) s k q with
         | false=>
          refine .to (show CG g s q (mkB g s k 0) (mkB g s k 1) (mkB g s k 2) (mkB g s k 3) (mkB g s k 4) (mkB g s k 5) (mkB g s k 6) (mkB g s k 7) (mkB g s k 8) (mkB g s k 9) (mkB g s k 10) (mkB g s k 11) (mkB g s k 12) (mkB g s k 13) (mkB g s k 14) (mkB g s k 15) (mkB g s k 16) (mkB g s k 17) (mkB g s k 18) (mkB g s k 19) (mkB g s k 20) (mkB g s k 21) (mkB g s k 22) (mkB g s k 23) (mkB (An g) s k 0) (mkB (An g) s k 1) (mkB (An g) s k 2) (mkB (An g) s k 3) (mkB (An g) s k 4) (mkB (An g) s k 5) (mkB (An g) s k 6) (mkB (An g) s k 7) (mkB (An g) s k 8) (mkB (An g) s k 9) (mkB (An g) s k 10) (mkB (An g) s k 11) (mkB (An g) s k 12) (mkB (An g) s k 13) (mkB (An g) s k 14) (mkB (An g) s k 15) (mkB (An g) s k 16) (mkB (An g) s k 17) (mkB (An g) s k 18) (mkB (An g) s k 19) (mkB (An g) s k 20) (mkB (An g) s k 21) (mkB (An g) s k 22) (mkB (An g) s k 23)=some (.inr ([],.tup [.bool false,.int .i64 0])) from ?_) ?_
          .unfold CG;rw[Ag (AB (by rw[hlb];simp only[iN];omega)),Ab (by omega),Uo,Ak hsq,hsqo,Ag (by rfl),Ab (by omega),Ak ga,hm,Ad (by rfl),Ak gb,hm2,Ag (by rfl)]
          .rw[Ez fun h=>by
            have:=EE.2 (rcv_vre hg (h.2.2 q k hsqo hso));rw[hm2] at this;cases this]
           exact .ret _
         | true=>refine .to (show CG g s q (mkB g s k 0) (mkB g s k 1) (mkB g s k 2) (mkB g s k 3) (mkB g s k 4) (mkB g s k 5) (mkB g s k 6) (mkB g s k 7) (mkB g s k 8) (mkB g s k 9) (mkB g s k 10) (mkB g s k 11) (mkB g s k 12) (mkB g s k 13) (mkB g s k 14) (mkB g s k 15) (mkB g s k 16) (mkB g s k 17) (mkB g s k 18) (mkB g s k 19) (mkB g s k 20) (mkB g s k 21) (mkB g s k 22) (mkB g s k 23) (mkB (An g) s k 0) (mkB (An g) s k 1) (mkB (An g) s k 2) (mkB (An g) s k 3) (mkB (An g) s k 4) (mkB (An g) s k 5) (mkB (An g) s k 6) (mkB (An g) s k 7) (mkB (An g) s k 8) (mkB (An g) s k 9) (mkB (An g) s k 10) (mkB (An g) s k 11) (mkB (An g) s k 12) (mkB (An g) s k 13) (mkB (An g) s k 14) (mkB (An g) s k 15) (mkB (An g) s k 16) (mkB (An g) s k 17) (mkB (An g) s k 18) (mkB (An g) s k 19) (mkB (An g) s k 20) (mkB (An g) s k 21) (mkB (An g) s k 22) (mkB (An g) s k 23)=some (.inl (muA (mkB g s k) (mkB (An g) s k) ((q+1:Nat):Int))) from ?_) (ihi (q+1) (by omega) (nxt fun _=>⟨EE.1 hm,rcv_rev hg (EE.1 hm2)⟩));unfold CG;rw[Ag (AB (by rw[hlb];simp only[iN];omega)),Ab (by omega),Uo,Ak hsq,hsqo,Ag (by rfl),Ab (by omega),Ak ga,hm,Ad (by rfl),Ak gb,hm2,Ad (by rfl),wq];rfl
     exact inner g.length 0 (by omega) fun w hw=>absurd hw (U2 _)
  exact key g.length 0 (by omega) fun v h=>absurd h (U2 _)
def chE(n:Aa)(sh:List Bool)(fl:Int):Int:=if A8 n=true then (if sh.length=Al n/\0<=fl/\fl<=8 then 0 else 19) else 20
theorem L0{n:Aa}{sh:List Bool}{fl:Int}(h:chE n sh fl=0):Aq n/\sh.length=Al n/\0<=fl/\fl<=8:=by
 unfold chE at h;split at h
 .rename_i hv;split at h
  .rename_i hx;exact⟨BD.1 hv,hx⟩
  .cases h
 .cases h
theorem Np{n:Aa}{sh:List Bool}{fl:Int}(hv:Aq n)(hl:sh.length=Al n)(h:0<=fl/\fl<=8):chE n sh fl=0:=by unfold chE;rw[Ud (BD.2 hv),Ud ⟨hl,h⟩]
theorem Om{n:Aa}(sh:List Bool)(fl:Int)(hrw:RwV n):CT Vb 46 [] [Ai n,.lst (boL sh),.int .i64 fl] [] (.int .i64 (chE n sh fl)):=by
 refine chc_ct n sh fl ([],_) (.val ?_);unfold MD chE Cr Bi;rw[Ab hrw];cases hv:A8 n with
 | false=>rfl
 | true=>
  rw[Ud rfl,Ud rfl,Ud rfl,Ad (by rfl),A9];by_cases h1:sh.length=Al n
  .rw[Ad (by simp[iN,h1])];by_cases h2:fl<0
   .rw[Ag (AB h2),Ue (by omega)]
   .by_cases h3:8<fl
    .rw[Ad (AA h2),Ag (AB h3),Ue (by omega)]
    .rw[Ad (AA h2),Ad (AA h3),Ud ⟨h1,by omega,by omega⟩]
  .rw[Ag (UZ.2 (by simp only[iN];omega)),Ue (by omega)]
def wth(sh:List Bool)(c:Int):List Bool:=sh.set c.toNat true
theorem Ru(sh:List Bool)(c:Int):(wth sh c).length=sh.length:=by unfold wth;simp
theorem wth_c{sh:List Bool}{c:Int}(hl:sh.length<=100000)(hc:0<=c/\c<(sh.length:Int)):CT Vb 147 [] [.lst (boL sh),.int .i64 c] [] (.lst (boL (wth sh c))):=by refine wth_ct sh c ([],_) (.val ?_);have hL:=A9 sh;unfold Pd;rw[Ab (fun e he=>by unfold boL at he;obtain⟨b,_,rfl⟩:=UI.1 he;rfl),Ab (by omega),Ab (by omega),Ab hc.1,Ab (by rw[hL];simp only[iN];omega),Ab (show Nat.le _ _ from(show 0+c.toNat+1<=(boL sh).length by omega))];unfold wth boL;rw[U0,Uu]
inductive EH where | l0 (v0 v1:Int)
def sloSt(n:Aa)(sh:List Bool):EH->St | .l0 v0 v1=>St.mk 44 [(1,Va (boL sh)),(2,AV.ptr 0 0 0),(7,iv v0),(19,Va (U4 sA n.ss)),(20,iv (iN (U4 sA n.ss).length)),(21,iv v1)] [some (bK [Ai n] 8)]
def LX(n:Aa)(sh:List Bool):Option (EH⊕Ret):=gu (RwV n) <|br (chE n sh 0 != 0) (some (.inr ([],AV.tup [iV 0,iV (chE n sh 0)]))) (some (.inl (.l0 ((0:Int)) ((0:Int)))))
def H1(n:Aa)(sh:List Bool)(v0 v1:Int):Option (EH⊕Ret):=br (decide (v1<iN (U4 sA n.ss).length)) (gu (0<=v1) <|el (n.ss) (v1.toNat) fun(x24:Av)=>gu (RwV n) <|br (cOB n sh v1) (br (x24.dep) (some (.inl (.l0 (i64.wrap (v0+x24.k)) (i64.wrap (v1+1))))) (some (.inl (.l0 v0 (i64.wrap (v1+1)))))) (some (.inl (.l0 v0 (i64.wrap (v1+1)))))) (some (.inr ([],AV.tup [iV v0,iV 0])))
def sloStep(n:Aa)(sh:List Bool):EH->Option (EH⊕Ret) | .l0 v0 v1=>H1 n sh v0 v1
theorem slo_ct(n:Aa)(sh:List Bool)(r:Ret)(h:Ac (sloStep n sh) (LX n sh) r):CT Vb 47 ([]) ([Ai n,.lst (boL sh)]) r.1 r.2:=
 CT.mach (fn:=Tryz.f47) (c:=zB Tryz.f47) (S:=(sloSt n sh)) (hd:=EH.ctorIdx) Tryz.func47 (by kernel_rfl) (nL rfl)
  (fun s o ho=>match s,ho with
 | .l0 v0 v1,ho=>Scr.ok (X:=H1 n sh v0 v1) ho mix (
 .rn 0 [] [] [] [] (al (al t3)) <|
 .br (fun a0=>
 .gu fun a1=>
 .el fun x24 a2=>
 .rn 0 [45] [(24,sA x24)] [] [] (aj a0 (al (u2 (aj (k2 (aj a1 (Af (f:=sA) a2))) (u2 (ak (u2 (al (k2 n11))))))))) <|
 .gu fun a3=>
 have c0:=P7 a3 (sh) (v1);
 .rn 0 [] [] [(30,hK c0 [] [])] [] (al (u2 (u2 (u2 (aj (k3 (aj t9 (k2 (al (c0))))) (u2 (u2 (u2 (u2 s2))))))))) <|
 .br (fun a4=>
  .rn 0 [69] [] [] [] (al (u2 (u2 (ag a4 (ag a4 (al (aj a4 t2))))))) <|
  .br (fun a5=>
  .lp [69,75] [] [] [] [] [0] [1,2,7,19,20,21] (aj (aj a5 (aj (u2 (u2 (u2 (aj t3 s2)))) (al (u2 s2)))) t8))
  (fun a5=>
  .lp [69,74] [] [] [] [] [0] [1,2,7,19,20,21] (aj (aj a5 (al (u2 s2))) t8)))
 (fun a4=>
  .lp [68] [] [] [] [] [0] [1,2,7,19,20,21] (aj (aj (u2 (u2 (aj a4 (aj a4 (al (aj a4 t2)))))) (ak (al (u2 s2)))) t8)))
 (fun a0=>
 .rt [44] [] [] [] [] [] (aj (aj a0 (al (u2 (u2 t2)))) (al t3)))) (by kernel_rfl)
  )
  (fun o ho=>Scr.ok (X:=LX n sh) ho mix (
 .rn 0 [] [] [] [] (al (u2 t3)) <|
 .gu fun a0=>
 have c0:=Om (sh) (0) a0;
 .rn 1 [] [] [(14,hK c0 [] [])] [] (aj (u2 (u2 (aj (k2 (aj t9 (k2 (al (c0))))) s2))) (al (u2 s2))) <|
 .br (fun a1=>
 .rt [33] [] [] [] [] [] (aj (aj a1 (al (u2 (ak s2)))) (al t3)))
 (fun a1=>
 .lp [32] [] [] [] [] [0] [1,2,7,19,20,21] (aj (aj a1 (u2 (al (u2 (u2 (u2 t2)))))) t8))) (by kernel_rfl)) h
def Nc(n:Aa)(sh:List Bool)(fl:Int):Option (Empty⊕Ret):=gu (∀(e:AV),e∈boL sh->e.cells.length=1) <|gu (iN (U4 bA n.bs).length<=iN (boL sh).length) <|gu (VG n.nx) <|br (muB n.nx (U7 ((U4 bA n.bs).length-U9 0) (U6 (U9 0) sh))) (gu (Aq n) <|gu (sh.length=Al n) <|some (.inr ([],bV (decide (fl<=slS n sh))))) (some (.inr ([],bV false)))
theorem rca_ct(n:Aa)(sh:List Bool)(fl:Int)(r:Ret)(h:Ac emT (Nc n sh fl) r):CT Vb 114 ([]) ([Ai n,.lst (boL sh),.int .i64 fl]) r.1 r.2:=
 CT.mach (fn:=Tryz.f114) (c:=zB Tryz.f114) (S:=emS) (hd:=emH) Tryz.func114 (by kernel_rfl) (nL rfl)
  (fun s o ho=>match s,ho with
   | x,_=>x.elim)
  (fun o ho=>Scr.ok (X:=Nc n sh fl) ho mix (
 .rn 0 [] [] [] [] (al (u2 t2)) <|
 .gu fun a0=>
 .gu fun a1=>
 .gu fun a2=>
 have c0:=rmu_c a2;
 .rn 0 [] [] [(17,hK c0 [] [])] [] (al (u2 (u2 (u2 (u2 (u2 (u2 (aj (k2 (aj a0 (aj (Int.le_refl 0) (aj (show 0<=iN (U4 bA n.bs).length from(Int.natCast_nonneg _)) (aj a1 (show iN (boL sh).length<=iN (boL sh).length by omega)))))) (aj (ak (k3 (al (show CT Vb 148 [] [Va (gL n.nx),Va (U7 ((U4 bA n.bs).length-U9 0) (U6 (U9 0) (boL sh)))] [] (AV.tup [bV (muB n.nx (U7 ((U4 bA n.bs).length-U9 0) (U6 (U9 0) sh))),iv (CE n.nx (U7 ((U4 bA n.bs).length-U9 0) (U6 (U9 0) sh)))]) from CT.eqs (c0) (by first | (simp only[boL,Us,U0,List.map_take,List.map_drop,List.map_replicate,List.nil_append]<;>rfl) | (simp[gL,boL,lI,sA,bA]<;>rfl)) (by first | (simp only[boL,Us,U0,List.map_take,List.map_drop,List.map_replicate,List.nil_append]<;>rfl) | (simp[gL,boL,lI,sA,bA]<;>rfl)))))) (u2 (u2 (u2 (u2 s2))))))))))))) <|
 .br (fun a3=>
 .gu fun a4=>
 .gu fun a5=>
 have c1:=rsl_c a4 a5;
 .rt [43] [] [(24,hK c1 [] [])] [] [] [] (aj (al (u2 (u2 (ag a3 (ag a3 (aj (aj a3 (k2 (aj t9 (ak (al (c1)))))) (ag a3 (aj (aj a3 t3) (ag a3 s2))))))))) t2))
 (fun a3=>
 .rt [42] [] [] [] [] [] (aj (al (u2 (u2 (aj a3 (aj a3 (aj a3 (aj a3 (aj a3 (ag a3 s2))))))))) t2))) (by kernel_rfl)) h
def slZ(n:Aa)(sh:List Bool):Int:=if chE n sh 0=0 then slS n sh else 0
theorem slo_c{n:Aa}(sh:List Bool)(hrw:RwV n):CT Vb 47 [] [Ai n,.lst (boL sh)] [] (.tup [.int .i64 (slZ n sh),.int .i64 (chE n sh 0)]):=by
 refine slo_ct n sh ([],_) ?_;have hn:(U4 sA n.ss).length=n.ss.length:=Ui _;unfold LX slZ;rw[Ab hrw];by_cases h:chE n sh 0=0
 case neg=>rw[Ag (UZ.2 h),Ue h];exact .ret _
 obtain⟨hv,hl,_⟩:=L0 h;have hss:n.ss.length<=100000:=by have:=hv.ns;omega
 rw[Ad (by rw[h];rfl),Ud h,h];refine Bm (fun j=>EH.l0 (slI n sh j) (j:Int)) n.ss.length (fun j hj hr=>.to ?_ hr) (.to ?_ (.ret _))
 .show H1 n sh (slI n sh j) j=_;have hs:=Ax s0 hj;have hb:=RG hv sh j (by omega);have ht:=N8 hv sh hj;unfold H1;rw[Ag (AB (by rw[hn];simp only[iN];omega)),Ab (by omega),Uo,Ak hs,zW j (by omega),Ab hrw,PQ hv hl ⟨by omega,by omega⟩];show _=some (Sum.inl (EH.l0 (slI n sh j+slT n sh j) ((j+1:Nat):Int)));unfold slT at ht ⊢
  cases ho:opB n sh (j:Int) with
  | false=>rw[Ad rfl,Ue (fun h=>by cases h.2),Int.add_zero]
  | true=>
   rw[Ag rfl];cases hd:(n.ss.getD j s0).dep with
   | false=>rw[Ad rfl,Ue (fun h=>by cases h.1),Int.add_zero]
   | true=>rw[hd,ho,Ud ⟨rfl,rfl⟩] at ht;rw[Ag rfl,Ud ⟨rfl,rfl⟩,CB (by omega) (by omega)]
 .show H1 n sh (slI n sh n.ss.length) n.ss.length=_;unfold H1;rw[Ad (AA (by rw[hn];simp only[iN];omega))];rfl
def caB(n:Aa)(sh:List Bool)(fl:Int):Bool:=muB n.nx (sh.take n.bs.length)&&decide (fl<=slS n sh)
theorem tk_eq(n:Aa)(sh:List Bool):U7 ((U4 bA n.bs).length-U9 0) (U6 (U9 0) sh)=sh.take n.bs.length:=by rw[Ui];rfl
theorem Lg{n:Aa}(hv:Aq n){sh:List Bool}(hl:sh.length=Al n):n.bs.length<=sh.length:=by rw[hl];exact hv.cel.2.1
theorem Pt(sh:List Bool):∀(e:AV),e∈boL sh->e.cells.length=1:=fun e he=>by unfold boL at he;obtain⟨b,_,rfl⟩:=UI.1 he;rfl
theorem Ka{n:Aa}{sh:List Bool}(fl:Int)(hv:Aq n)(hl:sh.length=Al n)(hrw:RwV n):CT Vb 114 [] [Ai n,.lst (boL sh),.int .i64 fl] [] (.bool (caB n sh fl)):=by
 refine rca_ct n sh fl ([],_) (.val ?_);have hb:=Lg hv hl;unfold Nc caB;rw[Ab (Pt sh),Ab (by rw[A9,Ui];simp only[iN];omega),Ab hrw.1.vg,tk_eq];cases muB n.nx (sh.take n.bs.length) with
 | false=>rfl
 | true=>rw[Ag rfl,Ab hv,Ab hl];rfl
def MN(n:Aa)(sh:List Bool)(fl:Int):Option (Empty⊕Ret):=gu (RwV n) <|br (chE n sh fl != 0) (some (.inr ([],AV.tup [bV false,iV (chE n sh fl)]))) (gu (∀(e:AV),e∈boL sh->e.cells.length=1) <|gu (iN (U4 bA n.bs).length<=iN (boL sh).length) <|gu (VG n.nx) <|br (muB n.nx (U7 ((U4 bA n.bs).length-U9 0) (U6 (U9 0) sh))) (some (.inr ([],AV.tup [bV (decide (fl<=slZ n sh)),iV 0]))) (some (.inr ([],AV.tup [bV false,iV 0]))))
theorem car_ct(n:Aa)(sh:List Bool)(fl:Int)(r:Ret)(h:Ac emT (MN n sh fl) r):CT Vb 15 ([]) ([Ai n,.lst (boL sh),.int .i64 fl]) r.1 r.2:=
 CT.mach (fn:=Tryz.f15) (c:=zB Tryz.f15) (S:=emS) (hd:=emH) Tryz.func15 (by kernel_rfl) (nL rfl)
  (fun s o ho=>match s,ho with
   | x,_=>x.elim)
  (fun o ho=>Scr.ok (X:=MN n sh fl) ho mix (
 .rn 0 [] [] [] [] (al (u2 t3)) <|
 .gu fun a0=>
 have c0:=Om (sh) (fl) a0;
 .rn 1 [] [] [(16,hK c0 [] [])] [] (aj (u2 (u2 (u2 (aj (k3 (aj t9 (k2 (al (c0))))) s2)))) (al (u2 s2))) <|
 .br (fun a1=>
 .rt [37] [] [] [] [] [] (aj (aj a1 (al (u2 (ak s2)))) (al t3)))
 (fun a1=>
 have c1:=slo_c (sh) a0;
 .rn 0 [36] [] [(23,hK c1 [] [])] [] (aj a1 (al (u2 (u2 (aj (k2 (aj t9 (ak (al (c1))))) (u2 (u2 (u2 (u2 s2))))))))) <|
 .gu fun a2=>
 .gu fun a3=>
 .gu fun a4=>
 have c2:=mut_c a4;
 .rn 0 [] [] [(34,hK c2 [] [])] [] (al (u2 (u2 (u2 (u2 (u2 (u2 (aj (k2 (aj a2 (aj (Int.le_refl 0) (aj (show 0<=iN (U4 bA n.bs).length from(Int.natCast_nonneg _)) (aj a3 (show iN (boL sh).length<=iN (boL sh).length by omega)))))) (aj (ak (k3 (al (show CT Vb 48 [] [Va (gL n.nx),Va (U7 ((U4 bA n.bs).length-U9 0) (U6 (U9 0) (boL sh)))] [] (AV.tup [bV (muB n.nx (U7 ((U4 bA n.bs).length-U9 0) (U6 (U9 0) sh))),iv (CE n.nx (U7 ((U4 bA n.bs).length-U9 0) (U6 (U9 0) sh)))]) from CT.eqs (c2) (by first | (simp only[boL,Us,U0,List.map_take,List.map_drop,List.map_replicate,List.nil_append]<;>rfl) | (simp[gL,boL,lI,sA,bA]<;>rfl)) (by first | (simp only[boL,Us,U0,List.map_take,List.map_drop,List.map_replicate,List.nil_append]<;>rfl) | (simp[gL,boL,lI,sA,bA]<;>rfl)))))) (u2 (u2 (u2 (u2 s2))))))))))))) <|
 .br (fun a5=>
  .rt [77] [] [] [] [] [] (aj (al (u2 (u2 (ag a5 (ag a5 (aj (aj a5 t3) (ag a5 (u2 t2)))))))) (al t3)))
 (fun a5=>
  .rt [76] [] [] [] [] [] (aj (al (u2 (u2 (aj a5 (aj a5 (aj a5 (ag a5 (u2 t2)))))))) (al t3))))) (by kernel_rfl)) h
def Ny(n:Aa)(sh:List Bool)(bk fl:Int):Option (Empty⊕Ret):=gu (0<=bk) <|el (sh) (bk.toNat) fun(x11:Bool)=>br (!x11) (gu (sh.length<=100000) <|gu (0<=bk/\bk<iN sh.length) <|gu (Aq n) <|gu ((wth sh bk).length=Al n) <|gu (RwV n) <|some (.inr ([],bV (caB n (wth sh bk) fl)))) (some (.inr ([],bV false)))
theorem ral_ct(n:Aa)(sh:List Bool)(bk fl:Int)(r:Ret)(h:Ac emT (Ny n sh bk fl) r):CT Vb 111 ([]) ([Ai n,.lst (boL sh),.int .i64 bk,.int .i64 fl]) r.1 r.2:=
 CT.mach (fn:=Tryz.f111) (c:=zB Tryz.f111) (S:=emS) (hd:=emH) Tryz.func111 (by kernel_rfl) (nL rfl)
  (fun s o ho=>match s,ho with
   | x,_=>x.elim)
  (fun o ho=>Scr.ok (X:=Ny n sh bk fl) ho mix (
 .rn 0 [] [] [] [] (al (u2 t2)) <|
 .gu fun a0=>
 .el fun x11 a1=>
 .br (fun a2=>
 .gu fun a3=>
 .gu fun a4=>
 .gu fun a5=>
 .gu fun a6=>
 .gu fun a7=>
 have c0:=wth_c a3 a4;
 have c1:=Ka (fl) a5 a6 a7;
 .rt [29] [(11,bV x11)] [(18,hK c0 [] []),(20,hK c1 [] [])] [] [] [] (aj (al (u2 (u2 (aj (k2 (aj a0 (Af (f:=bV) a1))) (u2 (u2 (u2 (ag a2 (ag a2 (ag a2 (aj (aj a2 (ak (k3 (al (c0))))) (ag a2 (aj (aj a2 (k3 (aj t9 (k2 (al (c1)))))) (ag a2 s2)))))))))))))) t2))
 (fun a2=>
 .rt [28] [(11,bV x11)] [] [] [] [] (aj (al (u2 (u2 (aj (k2 (aj a0 (Af (f:=bV) a1))) (u2 (u2 (u2 (aj a2 (aj a2 (aj a2 (aj a2 (aj a2 (aj a2 (ag a2 s2)))))))))))))) t2))) (by kernel_rfl)) h
def caO(n:Aa)(sh:List Bool)(fl:Int):Bool:=if chE n sh fl=0 then caB n sh fl else false
theorem slZ_ok{n:Aa}{sh:List Bool}(hv:Aq n)(hl:sh.length=Al n):slZ n sh=slS n sh:=by unfold slZ;rw[Ud (Np hv hl (by omega))]
theorem car_c{n:Aa}(sh:List Bool)(fl:Int)(hrw:RwV n):CT Vb 15 [] [Ai n,.lst (boL sh),.int .i64 fl] [] (.tup [.bool (caO n sh fl),.int .i64 (chE n sh fl)]):=by
 refine car_ct n sh fl ([],_) (.val ?_);unfold MN caO;rw[Ab hrw];by_cases h:chE n sh fl=0
 case neg=>rw[Ag (UZ.2 h),Ue h]
 obtain⟨hv,hl,_⟩:=L0 h;have hb:=Lg hv hl;rw[Ad (by rw[h];rfl),Ud h,h,Ab (Pt sh),Ab (by rw[A9,Ui];simp only[iN];omega),tk_eq,slZ_ok hv hl,Ab hv.vg];unfold caB;cases muB n.nx (sh.take n.bs.length)<;>rfl
def alB(n:Aa)(sh:List Bool)(bk fl:Int):Bool:= !(sh.getD bk.toNat true)&&caB n (wth sh bk) fl
theorem ral_c{n:Aa}{sh:List Bool}{bk:Int}(fl:Int)(hv:Aq n)(hl:sh.length=Al n)(hrw:RwV n)(hk:0<=bk/\bk<(n.bs.length:Int)):CT Vb 111 [] [Ai n,.lst (boL sh),.int .i64 bk,.int .i64 fl] [] (.bool (alB n sh bk fl)):=by
 refine ral_ct n sh bk fl ([],_) (.val ?_);have hb:=Lg hv hl;have hc:=hv.cel;have hs:=Ax true (show bk.toNat<sh.length by omega);unfold Ny alB;rw[Ab hk.1,Ak hs];cases sh.getD bk.toNat true with
 | true=>rfl
 | false=>rw[Ag (by rfl),Ab (by omega),Ab ⟨by omega,by simp only[iN];omega⟩,Ab hv,Ab (by rw[Ru];exact hl),Ab hrw];rfl
def Pk(n:Aa)(sh:List Bool)(bk fl:Int):Option (Empty⊕Ret):=gu (RwV n) <|br (chE n sh fl != 0) (some (.inr ([],AV.tup [bV false,iV (chE n sh fl)]))) (br (decide (bk<0)) (some (.inr ([],AV.tup [bV false,iV 19]))) (br (decide (iN (U4 bA n.bs).length<=bk)) (some (.inr ([],AV.tup [bV false,iV 19]))) (gu (0<=bk) <|el (sh) (bk.toNat) fun(x33:Bool)=>br x33 (some (.inr ([],AV.tup [bV false,iV 0]))) (gu (1 * iN (boL sh).length<=281474976710656) <|gu (iN (boL sh).length<=9223372036854775807) <|gu (∀(e:AV),e∈boL sh->e.cells.length=1) <|gu (bk<iN (boL sh).length) <|gu ((0+bk.toNat).succ.le ([]++U7 (min (boL sh).length (boL sh).length) (boL sh)++U6 (0+min (boL sh).length (boL sh).length) (U5 (boL sh).length (bV false))).length) <|some (.inr ([],AV.tup [bV (caO n ((U7 (min (boL sh).length (boL sh).length) sh++U6 (0+min (boL sh).length (boL sh).length) (U5 (boL sh).length false)).set (0+bk.toNat) true) fl),iV (chE n ((U7 (min (boL sh).length (boL sh).length) sh++U6 (0+min (boL sh).length (boL sh).length) (U5 (boL sh).length false)).set (0+bk.toNat) true) fl)]))))))
theorem all_ct(n:Aa)(sh:List Bool)(bk fl:Int)(r:Ret)(h:Ac emT (Pk n sh bk fl) r):CT Vb 82 ([]) ([Ai n,.lst (boL sh),.int .i64 bk,.int .i64 fl]) r.1 r.2:=
 CT.mach (fn:=Tryz.f82) (c:=zB Tryz.f82) (S:=emS) (hd:=emH) Tryz.func82 (by kernel_rfl) (nL rfl)
  (fun s o ho=>match s,ho with
   | x,_=>x.elim)
  (fun o ho=>Scr.ok (X:=Pk n sh bk fl) ho mix (
 .rn 0 [] [] [] [] (al (u2 t3)) <|
 .gu fun a0=>
 have c0:=Om (sh) (fl) a0;
 .rn 1 [] [] [(15,hK c0 [] [])] [] (aj (u2 (u2 (u2 (aj (k3 (aj t9 (k2 (al (c0))))) s2)))) (al (u2 (u2 s2)))) <|
 .br (fun a1=>
 .rt [33] [] [] [] [] [] (aj (aj a1 (al (u2 (ak s2)))) (al t3)))
 (fun a1=>
 .br (fun a2=>
  .rt [32,47] [] [] [] [] [] (aj (aj a1 (aj (u2 (u2 (u2 (aj a2 (aj a2 (aj a2 (aj a2 (aj a2 (ag a2 s2))))))))) (ak (al t3)))) (al t3)))
 (fun a2=>
  .rn 0 [32,46] [] [] [] (aj a1 (al (u2 (u2 (u2 (ag a2 (ag a2 (ag a2 (ag a2 (aj (aj a2 t3) (ag a2 s2))))))))))) <|
  .br (fun a3=>
  .rt [46,41] [] [] [] [] [] (aj (aj a3 (al t3)) (al t3)))
  (fun a3=>
  .gu fun a4=>
  .el fun x33 a5=>
  .rn 0 [46,40] [(33,bV x33)] [] [] (aj a3 (al (u2 (u2 (aj (k2 (aj a4 (Af (f:=bV) a5))) (u2 s2)))))) <|
  .br (fun a6=>
   .rt [46,61] [] [] [] [] [] (aj (aj a6 (al t3)) (al t3)))
  (fun a6=>
   .gu fun a7=>
   .gu fun a8=>
   .rn 0 [46,60] [] [] [] (aj a6 (al (u2 (u2 (aj (k2 (aj (show 0<=iN (boL sh).length from(Int.natCast_nonneg _)) (aj (show iN (boL sh).length<=iN (boL sh).length by omega) (aj a7 a8)))) s2))))) <|
   .gu fun a9=>
   .rn 0 [46] [] [] [] (al (u2 (u2 (al (k2 (aj (show 0+(boL sh).length<=(U5 (boL sh).length (bV false)).length by simp) a9)))))) <|
   .gu fun a10=>
   .gu fun a11=>
   have c1:=car_c ((U7 (min (boL sh).length (boL sh).length) sh++U6 (0+min (boL sh).length (boL sh).length) (U5 (boL sh).length false)).set (0+bk.toNat) true) (fl) a0;
   .rt [46] [] [(47,hK c1 [] [1])] [] [] [] (aj (aj (u2 (u2 (aj (k2 (aj a4 a10)) (al (ak a11))))) (al (u2 (u2 (u2 (aj (k3 (aj t9 (aj (show(boL sh).length=(([]++U7 (min (boL sh).length (boL sh).length) (boL sh)++U6 (0+min (boL sh).length (boL sh).length) (U5 (boL sh).length (bV false))).set (0+bk.toNat) (bV true)).length by simp) (ak (aj (show CT Vb 15 [] [AV.agg [Va (U4 bA n.bs),Va (gL n.nx),Va (U4 sA n.ss),Va (U4 iv n.rs),iv n.q,iv n.a,iv n.d,iv n.p],Va (([]++U7 (min (boL sh).length (boL sh).length) (boL sh)++U6 (0+min (boL sh).length (boL sh).length) (U5 (boL sh).length (bV false))).set (0+bk.toNat) (bV true)),iv fl] [] (AV.tup [bV (caO n ((U7 (min (boL sh).length (boL sh).length) sh++U6 (0+min (boL sh).length (boL sh).length) (U5 (boL sh).length false)).set (0+bk.toNat) true) fl),iv (chE n ((U7 (min (boL sh).length (boL sh).length) sh++U6 (0+min (boL sh).length (boL sh).length) (U5 (boL sh).length false)).set (0+bk.toNat) true) fl)]) from CT.eqs (c1) (by first | (simp only[boL,Us,U0,List.map_take,List.map_drop,List.map_replicate,List.nil_append]<;>rfl) | (simp[gL,boL,lI,sA,bA]<;>rfl)) (by first | (simp only[boL,Us,U0,List.map_take,List.map_drop,List.map_replicate,List.nil_append]<;>rfl) | (simp[gL,boL,lI,sA,bA]<;>rfl))) (show ∀(blk:Blk),blk∈[]->A5 blk from(by intro _ h;cases h))))))) (u2 (u2 (u2 s2))))))))) (al t3))))))) (by kernel_rfl)) h
def alE(n:Aa)(sh:List Bool)(bk fl:Int):Int:=if chE n sh fl=0 then (if 0<=bk/\bk<(n.bs.length:Int) then 0 else 19) else chE n sh fl
def alO(n:Aa)(sh:List Bool)(bk fl:Int):Bool:=if alE n sh bk fl=0 then alB n sh bk fl else false
theorem Q9{n:Aa}{sh:List Bool}{bk fl:Int}(h:chE n sh fl≠0):alE n sh bk fl=chE n sh fl/\alO n sh bk fl=false:=by
 have e:alE n sh bk fl=chE n sh fl:=by unfold alE;rw[Ue h]
 exact⟨e,by unfold alO;rw[Ue (by rw[e];exact h)]⟩
theorem J4{n:Aa}{sh:List Bool}{bk fl:Int}(h:chE n sh fl=0)(hb:¬(0<=bk/\bk<(n.bs.length:Int))):alE n sh bk fl=19/\alO n sh bk fl=false:=by
 have e:alE n sh bk fl=19:=by unfold alE;rw[Ud h,Ue hb]
 exact⟨e,by unfold alO;rw[Ue (by omega)]⟩
theorem ML{n:Aa}{sh:List Bool}{bk fl:Int}(h:chE n sh fl=0)(hb:0<=bk/\bk<(n.bs.length:Int)):alE n sh bk fl=0/\alO n sh bk fl=alB n sh bk fl:=by
 have e:alE n sh bk fl=0:=by unfold alE;rw[Ud h,Ud hb]
 exact⟨e,by unfold alO;rw[Ud e]⟩
theorem all_c{n:Aa}(sh:List Bool)(bk fl:Int)(hrw:RwV n):CT Vb 82 [] [Ai n,.lst (boL sh),.int .i64 bk,.int .i64 fl] [] (.tup [.bool (alO n sh bk fl),.int .i64 (alE n sh bk fl)]):=by
 refine all_ct n sh bk fl ([],_) (.val ?_);unfold Pk;rw[Ab hrw];by_cases h:chE n sh fl=0
 case neg=>rw[Ag (UZ.2 h),(Q9 h).1,(Q9 h).2]
 obtain⟨hv,hl,hf⟩:=L0 h;have hb:=Lg hv hl;have hc:=hv.cel;rw[Ad (by rw[h];rfl)];by_cases h1:bk<0
 .rw[Ag (AB h1),(J4 h (by omega)).1,(J4 h (by omega)).2]
 by_cases h2:(n.bs.length:Int)<=bk
 .rw[Ad (AA h1),Ag (AB (by rw[Ui];exact h2)),(J4 h (by omega)).1,(J4 h (by omega)).2]
 have hs:=Ax true (show bk.toNat<sh.length by omega);have hL:=A9 sh;have e:(U7 (min (boL sh).length (boL sh).length) sh++U6 (0+min (boL sh).length (boL sh).length) (U5 (boL sh).length false)).set (0+bk.toNat) true=wth sh bk:=by rw[hL,Nat.min_self,List.take_length,Uu,Uu,List.drop_of_length_le (by simp),List.append_nil];rfl
 rw[Ad (AA h1),Ad (AA (by rw[Ui];exact h2)),(ML h ⟨by omega,by omega⟩).1,(ML h ⟨by omega,by omega⟩).2,Ab (by omega),Ak hs,e];unfold alB;cases sh.getD bk.toNat true with
 | true=>rfl
 | false=>have hc2:chE n (wth sh bk) fl=0:=Np hv (by rw[Ru];exact hl) hf;rw[Ad (by rfl),Ab (by rw[hL];simp only[iN];omega),Ab (by rw[hL];simp only[iN];omega),Ab (Pt sh),Ab (by rw[hL];simp only[iN];omega),Ab (show Nat.le _ _ from(show 0+bk.toNat+1<=_ by simp only[List.nil_append,Uy,UF,T5,Uz,hL];omega)),hc2];unfold caO;rw[Ud hc2];rfl
inductive ET where | l0 (v0:Int)
def hckSt(n:Aa)(sh:List Bool)(hm:List Int):ET->St | .l0 v0=>St.mk 63 [(1,Va (boL sh)),(2,Va (U4 iv hm)),(3,AV.ptr 0 0 0),(7,iv (Bi n)),(24,iv (iN (U4 iv hm).length)),(25,iv v0)] [some (bK [Ai n] 8)]
def NK(n:Aa)(sh:List Bool)(hm:List Int):Option (ET⊕Ret):=gu (RwV n) <|br (Cr n != 0) (some (.inr ([],iV 20))) (br (decide (8<iN (U4 iV hm).length)) (some (.inr ([],iV 20))) (some (.inl (.l0 ((0:Int))))))
def Hk(n:Aa)(sh:List Bool)(hm:List Int)(v0:Int):Option (ET⊕Ret):=br (decide (v0<iN (U4 iV hm).length)) (gu (0<=v0) <|el (hm) (v0.toNat) fun(x30:Int)=>br (x30 != -1) (br (x30 != -2) (br (decide (x30<0)) (some (.inr ([],iV 20))) (br (decide (iN (U4 sA n.ss).length<=x30)) (some (.inr ([],iV 20))) (gu (0<=x30) <|el (n.ss) (x30.toNat) fun(x52:Av)=>br (!x52.dep) (some (.inr ([],iV 20))) (some (.inl (.l0 (i64.wrap (v0+1)))))))) (some (.inl (.l0 (i64.wrap (v0+1)))))) (some (.inl (.l0 (i64.wrap (v0+1)))))) (br (iN (boL sh).length != Bi n) (some (.inr ([],iV 19))) (some (.inr ([],iV 0))))
def hckStep(n:Aa)(sh:List Bool)(hm:List Int):ET->Option (ET⊕Ret) | .l0 v0=>Hk n sh hm v0
theorem hck_ct(n:Aa)(sh:List Bool)(hm:List Int)(r:Ret)(h:Ac (hckStep n sh hm) (NK n sh hm) r):CT Vb 136 ([]) ([Ai n,.lst (boL sh),lI hm]) r.1 r.2:=
 CT.mach (fn:=Tryz.f136) (c:=zB Tryz.f136) (S:=(hckSt n sh hm)) (hd:=ET.ctorIdx) Tryz.func136 (by kernel_rfl) (nL rfl)
  (fun s o ho=>match s,ho with
 | .l0 v0,ho=>Scr.ok (X:=Hk n sh hm v0) ho mix (
 .rn 0 [] [] [] [] (al (al t3)) <|
 .br (fun a0=>
 .rn 0 [53] [] [] [] (aj a0 (al (u2 s2))) <|
 .gu fun a1=>
 .el fun x30 a2=>
 .rn 0 [] [(30,iv x30)] [] [] (al (u2 (u2 (aj (k2 (aj a1 (Af (f:=iv) a2))) (u2 s2))))) <|
 .br (fun a3=>
  .br (fun a4=>
  .br (fun a5=>
   .rt [69,77,83] [] [] [] [] [] (aj (aj (u2 (u2 (u2 (ag a3 (ag a3 (ag a3 (u2 (ag a4 (ag a4 (ag a4 (aj a5 (aj a5 (aj a5 (aj a5 (aj a5 (aj (aj a4 (aj a5 t2)) (ag a4 (k2 (k5 (aj (aj a4 t3) (al (aj a4 t2)))))))))))))))))))))) (ak s2)) t2))
  (fun a5=>
   .br (fun a6=>
   .rt [69,77,82,97] [] [] [] [] [] (aj (aj (u2 (u2 (u2 (ag a3 (ag a3 (ag a3 (u2 (ag a4 (ag a4 (ag a4 (ag a5 (ag a5 (ag a5 (ag a5 (aj (aj a5 t3) (aj (aj a4 (aj a5 t2)) (ag a4 (aj a6 (aj a6 (aj a6 (aj a6 (aj a6 (aj a6 (aj a6 (aj (aj a4 (aj a6 t2)) (al (aj a4 t2))))))))))))))))))))))))))) (ak s2)) t2))
   (fun a6=>
   .gu fun a7=>
   .el fun x52 a8=>
   .rn 0 [69,77,82,96] [(52,sA x52)] [] [] (al (u2 (u2 (u2 (ag a3 (ag a3 (ag a3 (u2 (ag a4 (ag a4 (ag a4 (ag a5 (ag a5 (ag a5 (ag a5 (aj (aj a5 t3) (aj (aj a4 (aj a5 t2)) (ag a4 (ag a6 (ag a6 (ag a6 (aj (aj a6 (k2 (aj a7 (Af (f:=sA) a8)))) (ag a6 (ag a6 (ag a6 (aj (aj a4 (aj a6 t2)) (al (aj a4 t2)))))))))))))))))))))))))))) <|
   .br (fun a9=>
    .rt [69,77,82,96,115] [] [] [] [] [] (aj (aj a9 s2) t2))
   (fun a9=>
    .lp [69,77,82,96,114] [] [] [] [] [0] [1,2,3,7,24,25] (aj (aj a9 (al (u2 s2))) t8)))))
  (fun a4=>
  .lp [69,76] [] [] [] [] [0] [1,2,3,7,24,25] (aj (aj (u2 (u2 (u2 (ag a3 (ag a3 (ag a3 (u2 (aj a4 (aj a4 (aj a4 (k5 (aj a4 (aj a4 (k2 (k5 (aj a4 (al (aj a4 t2)))))))))))))))))) (ak (al (u2 s2)))) t8)))
 (fun a3=>
  .lp [68] [] [] [] [] [0] [1,2,3,7,24,25] (aj (aj (u2 (u2 (u2 (aj a3 (aj a3 (ag a3 (u2 (k3 (k5 (k5 (k5 (al t3)))))))))))) (ak (al (u2 s2)))) t8)))
 (fun a0=>
 .rn 0 [52] [] [] [] (aj a0 (al (u2 (u2 (u2 (al t3)))))) <|
 .br (fun a1=>
  .rt [125] [] [] [] [] [] (aj (aj a1 s2) t2))
 (fun a1=>
  .rt [124] [] [] [] [] [] (aj (aj a1 s2) t2)))) (by kernel_rfl)
  )
  (fun o ho=>Scr.ok (X:=NK n sh hm) ho mix (
 .rn 0 [] [] [] [] (al (u2 t2)) <|
 .gu fun a0=>
 have c0:=Lm a0;
 .rn 0 [] [] [(13,hK c0 [] [])] [] (al (u2 (aj (ak (aj t9 (al (c0)))) (u2 (u2 (u2 (u2 s2))))))) <|
 .br (fun a1=>
 .rt [37] [] [] [] [] [] (aj (aj (u2 (u2 (u2 (aj a1 (aj a1 (aj a1 (al (aj a1 t2)))))))) (ak s2)) t2))
 (fun a1=>
 .rn 0 [36] [] [] [] (al (u2 (u2 (u2 (ag a1 (ag a1 (ag a1 (al (aj a1 t2))))))))) <|
 .br (fun a2=>
  .rt [36,45] [] [] [] [] [] (aj (aj a2 s2) t2))
 (fun a2=>
  .lp [36,44] [] [] [] [] [0] [1,2,3,7,24,25] (aj (aj a2 (al (u2 (u2 t2)))) t8)))) (by kernel_rfl)) h
def L2(n:Aa)(sh:List Bool)(sp:Int):Option (Empty⊕Ret):=gu (RwV n) <|br (cOB n sh sp) (gu (0<=sp) <|el (n.ss) (sp.toNat) fun(x21:Av)=>some (.inr ([],bV x21.dep))) (some (.inr ([],bV false)))
theorem hOp_ct(n:Aa)(sh:List Bool)(sp:Int)(r:Ret)(h:Ac emT (L2 n sh sp) r):CT Vb 155 ([]) ([Ai n,.lst (boL sh),.int .i64 sp]) r.1 r.2:=
 CT.mach (fn:=Tryz.f155) (c:=zB Tryz.f155) (S:=emS) (hd:=emH) Tryz.func155 (by kernel_rfl) (nL rfl)
  (fun s o ho=>match s,ho with
   | x,_=>x.elim)
  (fun o ho=>Scr.ok (X:=L2 n sh sp) ho mix (
 .rn 0 [] [] [] [] (al (u2 t2)) <|
 .gu fun a0=>
 have c0:=P7 a0 (sh) (sp);
 .rn 0 [] [] [(13,hK c0 [] [])] [] (al (u2 (u2 (u2 (aj (k3 (aj t9 (k2 (al (c0))))) (u2 (u2 (u2 (u2 s2))))))))) <|
 .br (fun a1=>
 .gu fun a2=>
 .el fun x21 a3=>
 .rt [35] [(21,sA x21)] [] [] [] [] (aj (al (u2 (u2 (ag a1 (ag a1 (ag a1 (aj (aj a1 (k2 (aj a2 (Af (f:=sA) a3)))) (ag a1 (ag a1 (ag a1 s2)))))))))) t2))
 (fun a1=>
 .rt [34] [] [] [] [] [] (aj (al (u2 (u2 (aj a1 (aj a1 (aj a1 (aj a1 (aj a1 (aj a1 (ag a1 s2)))))))))) t2))) (by kernel_rfl)) h
inductive FV where | l0 (v0 v1:Int)
def rPlSt(n:Aa)(sh:List Bool)(hm:List Int)(sp:Int):FV->St | .l0 v0 v1=>St.mk 47 [(2,Va (U4 iv hm)),(3,iv sp),(9,iv v0),(10,iv v1)] []
def OD(n:Aa)(sh:List Bool)(hm:List Int)(sp:Int):Option (FV⊕Ret):=gu (0<=sp) <|el (n.ss) (sp.toNat) fun(x14:Av)=>br (!x14.dep) (some (.inr ([],iV 0))) (gu (Aq n) <|gu (sh.length=Al n) <|gu (0<=sp/\sp<iN n.ss.length) <|br (!opB n sh sp) (some (.inr ([],iV 0))) (el (n.ss) (sp.toNat) fun(x28:Av)=>some (.inl (.l0 (x28.k) ((0:Int))))))
def HJ(n:Aa)(sh:List Bool)(hm:List Int)(sp v0 v1:Int):Option (FV⊕Ret):=br (decide (v1<iN (U4 iV hm).length)) (gu (0<=v1) <|el (hm) (v1.toNat) fun(x39:Int)=>br (x39==sp) (some (.inl (.l0 (i64.wrap (v0-1)) (i64.wrap (v1+1))))) (some (.inl (.l0 v0 (i64.wrap (v1+1)))))) (some (.inr ([],iV (if v0<0 then 0 else v0))))
def Q3(n:Aa)(sh:List Bool)(hm:List Int)(sp:Int):FV->Option (FV⊕Ret) | .l0 v0 v1=>HJ n sh hm sp v0 v1
theorem rPl_ct(n:Aa)(sh:List Bool)(hm:List Int)(sp:Int)(r:Ret)(h:Ac (Q3 n sh hm sp) (OD n sh hm sp) r):CT Vb 115 ([]) ([Ai n,.lst (boL sh),lI hm,.int .i64 sp]) r.1 r.2:=
 CT.mach (fn:=Tryz.f115) (c:=zB Tryz.f115) (S:=(rPlSt n sh hm sp)) (hd:=FV.ctorIdx) Tryz.func115 (by kernel_rfl) (nL rfl)
  (fun s o ho=>match s,ho with
 | .l0 v0 v1,ho=>Scr.ok (X:=HJ n sh hm sp v0 v1) ho mix (
 .rn 0 [] [] [] [] (al (u2 (u2 (u2 (al t3))))) <|
 .br (fun a0=>
 .gu fun a1=>
 .el fun x39 a2=>
 .rn 0 [69] [(39,iv x39)] [] [] (aj a0 (al (u2 (u2 (aj (k2 (aj a1 (Af (f:=iv) a2))) (u2 (u2 (al t3)))))))) <|
 .br (fun a3=>
  .lp [85] [] [] [] [] [] [2,3,9,10] (aj (aj a3 (aj (u2 (u2 s2)) (al (u2 (u2 s2))))) t5))
 (fun a3=>
  .lp [84] [] [] [] [] [] [2,3,9,10] (aj (aj a3 (al (u2 (u2 s2)))) t5)))
 (fun a0=>
 .rt [68] [] [] [] [] [] (aj (aj a0 (al (u2 (u2 s2)))) t2))) (by kernel_rfl)
  )
  (fun o ho=>Scr.ok (X:=OD n sh hm sp) ho mix (
 .rn 0 [] [] [] [] (al (u2 t2)) <|
 .gu fun a0=>
 .el fun x14 a1=>
 .br (fun a2=>
 .rt [37] [(14,sA x14)] [] [] [] [] (aj (aj (u2 (u2 (u2 (aj (k2 (aj a0 (Af (f:=sA) a1))) (u2 (u2 (u2 (u2 (aj a2 (aj a2 (aj a2 (aj a2 (aj a2 (al (aj a2 t2))))))))))))))) (ak s2)) t2))
 (fun a2=>
 .gu fun a3=>
 .gu fun a4=>
 .gu fun a5=>
 have c0:=Jm n (sh) (sp) a3 a4 a5;
 .rn 0 [36] [(14,sA x14)] [(22,hK c0 [] [])] [] (al (u2 (u2 (u2 (aj (k2 (aj a0 (Af (f:=sA) a1))) (u2 (u2 (u2 (u2 (ag a2 (ag a2 (ag a2 (aj (aj a2 (k3 (aj t9 (k2 (al (c0)))))) (ag a2 (al (aj a2 t2)))))))))))))))) <|
 .br (fun a6=>
  .rt [36,49] [] [] [] [] [] (aj (aj a6 s2) t2))
 (fun a6=>
  .el fun x28 a7=>
  .lp [36,48] [(28,sA x28)] [] [] [] [] [2,3,9,10] (aj (aj a6 (aj (u2 (u2 (u2 (aj (k2 (aj a0 (Af (f:=sA) a7))) (u2 (u2 s2)))))) s2)) t5)))) (by kernel_rfl)) h
end Go.Proofs.YthjgbnbibebigaaGreat
