/- Parts of the proof:RqA,Rqam,RqB,Cz1m,CzA,Rq1m,Rq2m,RqC,SpA,SpB,Sg1m,SgA,SgB,Sg2m,SgC,SgD,SgE,SgH,Rp1m,RpA,Rp2m,RpB,Rp3m,RpC,Sg3m,SgF,Leam,Leb,Lecm,LeF,Cz2m,CzB,Cl1m,RqD,ClA,Cl2m,ClB,Cl3m,ClC,Cl4m,ClD,Lf1m,LfA. -/
import Derived.KernelRfl
import Derived.Test.YthjgbnbibebigaaGreatProg
import Derived.Test.YthjgbnbibebigaaGreatLedgerTasksM5
noncomputable section
set_option linter.unusedVariables false
set_option linter.unusedSimpArgs false
open Go Go.AX Go.Proofs
set_option maxRecDepth 100000
set_option linter.unusedVariables false
set_option linter.unusedSimpArgs false
open Go.IntKind (i64 u64)
open List renaming map->Un,replicate->Uo,drop->Up,take->Uq
open Int renaming toNat->Us
open Go.AX.AV renaming lst->Ut
open Go.Proofs.Tryz renaming prog->Uu
namespace Go.Proofs.YthjgbnbibebigaaGreat
theorem _root_.Go.AX.Bz.av{P:Program}{m:Nat}{ops:Array Oper}{o:Oper}{r:List Oper}{n d:Nat}{fr:List (Nat×AV)}{hp:List (Option Blk)}{k:St->Prop}(v:AV)(hg:o.guard=none)(ho:o.dst=some d)(hd:Nat.ble (d+1) n=true)(h:aop P o (St.ev ⟨n,fr,hp⟩) hp .no=some ({v},True))(q:Bz P m ops r ⟨n,(d,v)::fr,hp⟩ k):Bz P m ops (o::r) ⟨n,fr,hp⟩ k:=.val (noG hg) ho (TV hd) ((Oe h trivial).1.dn rfl) q
def bsA(m:Nat->Bool)(n:Nat):List AV:=(List.range n).map fun k=>.bool (m k)
theorem F0(m:Nat->Bool)(n:Nat):(bsA m n).length=n:=by unfold bsA;simp
theorem N4(m:Nat->Bool){n k:Nat}(h:k<n):(bsA m n)[k]?=some (.bool (m k)):=by unfold bsA;rw[TD,TT h];rfl
theorem QP(n:Nat):Uo n (AV.bool false)=bsA (fun _=>false) n:=by unfold bsA;rw[List.map_const',Ue]
theorem Qs(m:Nat->Bool)(n x:Nat):(bsA m n).set (0+x) (.bool true)=bsA (BZ m x) n:=by
 rw[TI];refine List.ext_getElem? fun k=>?_
 rw[Uk,F0];by_cases hk:k<n
 .rw[N4 _ hk,N4 _ hk,BE];by_cases hx:x=k
  .subst hx;rw[Tq rfl,Tq hk,Tq rfl]
  .rw[Ts hx,Ts (fun e=>hx e.symm)]
 .rw[TU (by rw[F0];omega),TU (by rw[F0];omega)];split
  .rw[Ts (by omega)]
  .rfl
theorem D2:tsz Uu 4=some (1,false):=by kernel_rfl
theorem D5:Bu Uu 34=some (none,1):=by kernel_rfl
def rqS(g:List (List Int))(s:List Bool)(i q b:Nat)(hp:List (Option Blk)):St:=⟨Tryz.f161.ntmps,[(0,.lst (gL g)),(1,.lst (boL s)),(7,.sl 0 0 (gL g).length),(8,.sl b i q)],hp⟩
def rqJ(g:List (List Int))(s:List Bool)(i q b:Nat)(x:Int)(k:Nat)(hp:List (Option Blk)):St:=⟨Tryz.f161.ntmps,[(0,.lst (gL g)),(1,.lst (boL s)),(7,.sl 0 0 (gL g).length),(8,.sl b i q),(9,.int .i64 x),(10,.int .i64 (k:Int))],hp⟩
structure RqI(g:List (List Int))(m:Nat->Bool)(es:List AV)(st:List Int)(i b:Nat)(hp:List (Option Blk)):Prop where
 top:nth hp 0=some (Blk.mk (bsA m g.length) 1 true true none)
 blk:nth hp b=some (Blk.mk es 1 true true none)
 pos:1<=b
 dr:es.drop i=st.map (AV.int .i64)
 siz:es.length+cUn m 24<=24
 le:i<=es.length
structure RqX where
 m:Nat->Bool
 es:List AV
 st:List Int
 i:Nat
 b:Nat
 hp:List (Option Blk)
theorem Pa{n N:Nat}{es:List AV}{hp:List (Option Blk)}(h:nth hp 0=some (Blk.mk es 1 true true none))(hn:N=es.length):Ren 0 ⟨n,[(0,.sl 0 0 N)],hp⟩ ⟨n,[(0,.lst es)],[]⟩:=by
 refine Ren.of (p:=N=es.length/\True) [] [0] [0] ?_ ⟨hn,trivial⟩ rfl rfl rfl;have e:A6 [] [0] hp 3 (.sl 0 0 N)=(.lst es,N=es.length):=by
  show(match Di [] [0] hp 0 0 N with | some x=>x | none=>(AV.unk,True))=_;have:Di [] [0] hp 0 0 N=some (.lst es,N=es.length):=by unfold Di;show(match Be [0] 0,nth hp 0 with | true,some blk=>_ | _,_=>none)=_;rw[h];rfl
  rw[this]
 show(match DA [] [0] hp with | some hp'=>_ | none=>none)=_;show some _=_;simp only[Tn,Tp,AX.Av,Nat.beq_refl,e,List.foldr]
theorem QZ{m:Nat->Bool}{g:List (List Int)}{es:List AV}{st:List Int}{i b:Nat}{hp:List (Option Blk)}(h:RqI g m es st i b hp):st.length=es.length-i:=by have:=congrArg List.length h.dr;rw[Th,Tw] at this;exact this.symm
theorem reach_ct{g:List (List Int)}{s:List Bool}(hg:GOk g)(hs:s.length=g.length){v:Nat}(hv:v<g.length):CT Uu 161 [] [.lst (gL g),.lst (boL s),.int .i64 (v:Int)] [] (.lst (boL ((List.range g.length).map (mkB g s v)))):=by
 have h24:=hg.len;have hlg:(gL g).length=g.length:=Cq g;have hbo:boL ((List.range g.length).map (mkB g s v))=bsA (mkB g s v) g.length:=by unfold boL bsA;rw[List.map_map];rfl
 rw[hbo];have gsA:∀x:Nat,x<g.length->(boL s)[x]?=some (.bool (s.getD x true)):=fun x hx=>by unfold boL;rw[TD,Az true (by omega)];rfl
 have hsv:=gsA v hv;refine CT.of Tryz.func161 (show Tryz.f161.body=some (zB Tryz.f161) from by kernel_rfl) (nL rfl) ?_;refine T.seq ?_;refine T.ops (st':=?su1) ?steps1 ?post1
 case steps1=>refine .av (.nils) rfl rfl rfl (by kernel_rfl) ?_;exact .nil _
 show T Uu 0 _ _ _;refine T.seq ?_;refine T.ops (st':=?su2) ?steps2 ?post2
 case steps2=>refine .av (.lst (gL g)) rfl rfl rfl (by kernel_rfl) ?_;refine .av (.int .i64 (iN (gL g).length)) rfl rfl rfl (by kernel_rfl) ?_;refine .new (v:=.sl 0 0 (gL g).length) (blk:=bK (Uo (gL g).length (.bool false)) 1) rfl rfl (nL rfl) (BV rfl (hint:=.no) (R:={v:=.sl 0 0 (gL g).length,new:=[bK (Uo (gL g).length (.bool false)) 1]}) (p:=0<=iN (gL g).length/\iN (gL g).length<=iN (gL g).length/\((1:Nat):Int) * iN (gL g).length<=281474976710656/\iN (gL g).length<=9223372036854775807) (by kernel_rfl) (by simp only[iN,hlg];omega)).1 ?_;refine .av (.sl 0 0 (gL g).length) rfl rfl rfl (by kernel_rfl) ?_;exact .nil _
 show T Uu 0 _ _ _;refine T.seq (T.seq ?_);cases hsb:s.getD v true with
 | true=>
  refine T.ops (st':=?su3) ?steps3 ?post3
  case steps3=>refine .av (.lst (boL s)) rfl rfl rfl (by kernel_rfl) ?_;refine .av (.int .i64 (v:Int)) rfl rfl rfl (by kernel_rfl) ?_;refine .va (.iptr [.bool true]) rfl rfl rfl (CL (es:=boL s) (m:=(v:Int)) (e:=.bool true) rfl rfl rfl D5 (by omega) (by rw[TC,hsv,hsb]) rfl) ?_;refine .va (.bool true) rfl rfl rfl (CX rfl rfl D2 rfl rfl) ?_;exact .nil _
  show T Uu 0 _ _ _;refine T.cond_true rfl (T.seq ?_);refine T.ops (st':=?su4) ?steps4 ?post4
  case steps4=>refine .av (.sl 0 0 (gL g).length) rfl rfl rfl (by kernel_rfl) ?_;refine .av (.sl 0 0 (gL g).length) rfl rfl rfl (by kernel_rfl) ?_;exact .nil _
  show T Uu 0 _ _ _;have hno:mkB g s v=fun _=>false:=by
   funext k;refine NJ fun h=>?_
   have:s.getD v true=false:=by
    clear hsv;induction h with
    | refl h=>exact h
    | step _ _ _ ih=>exact ih
   rw[hsb] at this;cases this
  rw[hno];refine T.ret ?_;refine⟨.inr rfl,.sl 0 0 (gL g).length,⟨Tryz.f161.ntmps,[(0,.lst (bsA (fun _=>false) g.length))],[]⟩,rfl,Pa (by rw[<-QP,<-hlg];rfl) (by rw[F0,hlg]),rfl,rfl,(nL rfl)⟩
 | false=>
  refine T.ops (st':=?su5) ?steps5 ?post5
  case steps5=>refine .av (.lst (boL s)) rfl rfl rfl (by kernel_rfl) ?_;refine .av (.int .i64 (v:Int)) rfl rfl rfl (by kernel_rfl) ?_;refine .va (.iptr [.bool false]) rfl rfl rfl (CL (es:=boL s) (m:=(v:Int)) (e:=.bool false) rfl rfl rfl D5 (by omega) (by rw[TC,hsv,hsb]) rfl) ?_;refine .va (.bool false) rfl rfl rfl (CX rfl rfl D2 rfl rfl) ?_;exact .nil _
  show T Uu 0 _ _ _;refine T.cond_false rfl (T.skip ?_);show T Uu 0 _ _ _;refine T.seq ?_;refine T.ops (st':=?su6) ?steps6 ?post6
  case steps6=>
   refine .av (.sl 0 0 (gL g).length) rfl rfl rfl (by kernel_rfl) ?_;refine .av (.int .i64 (v:Int)) rfl rfl rfl (by kernel_rfl) ?_;refine .va (.ptr 0 (0+v) 0) rfl rfl rfl (Dp (m:=(v:Int)) rfl rfl rfl D5 (h:=nth [some (bK (Uo (gL g).length (.bool false)) 1)]) rfl rfl ⟨by omega,by omega⟩) ?_;refine .chg (v:=.unk) (blk:=bK ((Uo (gL g).length (bV false)).set (0+v) (.bool true)) 1) rfl rfl (b:=0) rfl rfl ?_ ?_
   rotate_left
   exact .nil _;exact La (x:=.tmp 22) (y:=.const (.bool true)) (e:=.bool true) (b:=0) (i:=0+v) (j:=0) (flat:=true) (blk:=bK (Uo (gL g).length (.bool false)) 1) rfl rfl rfl rfl D2 rfl rfl rfl (show 0+v<(Uo (gL g).length (bV false)).length by rw[TR];omega) (TE _) rfl (fun kk c hc=>.inl (by
    match kk,hc with
    | 0,hc=>exact⟨TE _,Nat.lt_add_one _,hc⟩)) rfl
  show T Uu 0 _ _ _;refine T.seq ?_;refine T.ops (st':=?su7) ?steps7 ?post7
  case steps7=>refine .av (.int .i64 (v:Int)) rfl rfl rfl (by kernel_rfl) ?_;refine .new (v:=.sl 1 0 1) (blk:=bK [.int .i64 (v:Int)] 1) rfl rfl (nL rfl) (FS rfl (by kernel_rfl)) ?_;refine .av (.sl 1 0 1) rfl rfl rfl (by kernel_rfl) ?_;exact .nil _
  show T Uu 0 _ _ _;refine T.seq ?_;refine T.block ?_;refine T.ren (st':=rqS g s 0 1 1 [some (bK ((Uo (gL g).length (bV false)).set (0+v) (.bool true)) 1),some (bK [.int .i64 (v:Int)] 1)]) (Ren.keys ⟨rfl,rfl,rfl,rfl,trivial⟩) ?_;have hc0:=JK (m:=fun _=>false) (x:=v) rfl 24;rw[Tq (by omega)] at hc0;have h0:cUn (fun _=>false) 24=24:=by decide
  have hJ0:FdJ g s v (BZ (fun _=>false) v) [(v:Int)] (fun _=>False):=by
   refine⟨fun k hk=>?_,by rw[BE,Tq rfl],fun x hx=>?_,fun u hu hn _ w hw ho=>?_,?_⟩
   .rw[BE] at hk;split at hk
    .rename_i e;subst e;exact .refl hsb
    .cases hk
   .rw[Tj.1 hx];exact⟨by omega,by omega,by rw[TC,BE,Tq rfl]⟩
   .rw[BE] at hu;split at hu
    .rename_i e;subst e;exact absurd (Tj.2 rfl) hn
    .cases hu
   .show 1+cUn (BZ (fun _=>false) v) 24<=24;omega
  refine T.loop (fun X:RqX=>rqS g s X.i X.st.length X.b X.hp) (fun X=>RqI g X.m X.es X.st X.i X.b X.hp/\FdJ g s v X.m X.st (fun _=>False)) (fun X=>2 * cUn X.m 24+X.st.length) ⟨BZ (fun _=>false) v,[.int .i64 (v:Int)],[(v:Int)],0,1,_⟩ ⟨⟨?_,rfl,TE _,rfl,?_,TF _⟩,hJ0⟩ ?_
  .show some _=_;rw[QP,Qs,hlg]
  .show 1+cUn (BZ (fun _=>false) v) 24<=24;omega
  rintro⟨m,es,st,i,b,hp⟩ ⟨hI,hJ⟩
  simp only at hI hJ;have hht:=QZ hI;refine T.seq (T.seq ?_);refine T.ops (st':=?su8) ?steps8 ?post8
  case steps8=>refine .av (.sl b i st.length) rfl rfl rfl (by kernel_rfl) ?_;refine .av (.int .i64 (iN st.length)) rfl rfl rfl (by kernel_rfl) ?_;refine .av (.bool (decide ((0:Int)<iN st.length))) rfl rfl rfl (by kernel_rfl) ?_;exact .nil _
  show T Uu 0 _ _ _;refine T.cond_split (b:=decide ((0:Int)<iN st.length)) rfl (fun hlt=>T.skip ?_) (fun hge=>T.exit ?_)
  .have hpos:0<st.length:=by have:=of_decide_eq_true hlt;simp only[iN] at this;omega
   obtain⟨x,su1,rfl⟩:=List.exists_cons_of_length_pos hpos;have hxe:es[i+(0:Int).toNat]?=some (.int .i64 x):=by have:=congrArg (fun l:List AV=>l[0]?) hI.dr;simpa using this
   have hdr1:es.drop (i+1)=su1.map (AV.int .i64):=by have:=congrArg (Up 1) hI.dr;rw[Td] at this;simpa using this
   obtain⟨x0,x1,x2⟩:=hJ.stk x (List.mem_cons_self ..);have hxl:x.toNat<g.length:=by omega
   obtain⟨hr1,hr2⟩:=hg.row x.toNat hxl;have hgl:=QR hxl;generalize hrr:g.getD x.toNat []=r at hgl hr1 hr2;show T Uu 0 _ _ _;refine T.block ?_;refine T.seq ?_;refine T.ops (st':=?su9) ?steps9 ?post9
   case steps9=>refine .av (.sl b i (x::su1).length) rfl rfl rfl (by kernel_rfl) ?_;refine .va (.ptr b (i+(0:Int).toNat) 0) rfl rfl rfl (Dp (m:=0) rfl rfl rfl Kx hI.blk rfl ⟨by omega,by omega⟩) ?_;refine .va (.int .i64 x) rfl rfl rfl (Ej rfl rfl hI.blk hxe tsz3 rfl rfl) ?_;refine .av (.int .i64 x) rfl rfl rfl (by kernel_rfl) ?_;exact .nil _
   show T Uu 0 _ _ _;refine T.seq ?_;refine T.ops (st':=?su10) ?steps10 ?post10
   case steps10=>refine .av (.sl b i (x::su1).length) rfl rfl rfl (by kernel_rfl) ?_;refine .va (.sl b (i+(1:Int).toNat) ((((x::su1).length:Nat):Int).toNat-(1:Int).toNat)) rfl rfl rfl (Og (l:=1) (u:=(((x::su1).length:Nat):Int)) (m:=(((x::su1).length:Nat):Int)) rfl rfl Kx hI.blk rfl rfl rfl rfl (fun h=>by cases h) ⟨by omega,by omega,by omega,by omega⟩) ?_;refine .av (.sl b (i+(1:Int).toNat) ((((x::su1).length:Nat):Int).toNat-(1:Int).toNat)) rfl rfl rfl (by kernel_rfl) ?_;exact .nil _
   show T Uu 0 _ _ _;refine T.seq ?_;refine T.ops (st':=?su11) ?steps11 ?post11
   case steps11=>refine .av (.int .i64 0) rfl rfl rfl (by kernel_rfl) ?_;exact .nil _
   show T Uu 0 _ _ _;refine T.block ?_;refine T.ren (st':=rqJ g s (i+1) su1.length b x 0 hp) (Ren.keys ⟨rfl,rfl,rfl,(by show AV.sl b (i+1) su1.length=AV.sl b (i+(1:Int).toNat) ((((x::su1).length:Nat):Int).toNat-(1:Int).toNat);rw[TC,Ua];rfl),rfl,rfl,trivial⟩) ?_;refine T.loop (fun Y:Nat×RqX=>rqJ g s Y.2.i Y.2.st.length Y.2.b x Y.1 Y.2.hp) (fun Y=>Y.1<=r.length/\RqI g Y.2.m Y.2.es Y.2.st Y.2.i Y.2.b Y.2.hp/\FdJ g s v Y.2.m Y.2.st (fun u=>u=x.toNat)/\Y.2.m x.toNat=true/\(∀(j:Nat) (w:Int),j<Y.1->r[j]?=some w->s.getD w.toNat true=false->Y.2.m w.toNat=true)/\2 * cUn Y.2.m 24+Y.2.st.length<2 * cUn m 24+(x::su1).length) (fun Y=>r.length-Y.1) (0,⟨m,es,su1,i+1,b,hp⟩) ⟨TF _,⟨hI.top,hI.blk,hI.pos,hdr1,hI.siz,by rw[Ua] at hht;show i+1<=es.length;omega⟩,⟨hJ.sound,hJ.start,fun y hy=>hJ.stk y (TN _ hy),fun u hu hn hex w hw ho=>?_,?_⟩,x2,fun j w hj=>absurd hj (Ul _),?_⟩ ?_
   .refine hJ.closed u hu (fun h=>?_) (fun e=>e) w hw ho;rcases TZ.1 h with h | h
    .exact hex (by omega)
    .exact hn h
   .have:=hJ.size;rw[Ua] at this;show su1.length+cUn m 24<=24;omega
   .show 2 * cUn m 24+su1.length<2 * cUn m 24+(x::su1).length;rw[Ua];omega
   rintro⟨k,⟨m2,es2,su2,i2,b2,hp2⟩⟩ ⟨hk,hI2,hJ2,hmx,hdone,hmu⟩
   simp only at hk hI2 hJ2 hmx hdone hmu;have hht2:=QZ hI2;refine T.seq (T.seq ?_);refine T.ops (st':=?su12) ?steps12 ?post12
   case steps12=>refine .av (.int .i64 (k:Int)) rfl rfl rfl (by kernel_rfl) ?_;refine .av (.lst (gL g)) rfl rfl rfl (by kernel_rfl) ?_;refine .av (.int .i64 x) rfl rfl rfl (by kernel_rfl) ?_;refine .va (.iptr [lI r]) rfl rfl rfl (CL (es:=gL g) (m:=x) (e:=lI r) rfl rfl rfl E7 (by omega) hgl rfl) ?_;refine .va (lI r) rfl rfl rfl (CX rfl rfl ET rfl rfl) ?_;refine .av (.int .i64 (iN (r.map (AV.int .i64)).length)) rfl rfl rfl (by kernel_rfl) ?_;refine .av (.bool (decide ((k:Int)<iN (r.map (AV.int .i64)).length))) rfl rfl rfl (by kernel_rfl) ?_;exact .nil _
   show T Uu 0 _ _ _;refine T.cond_split (b:=decide ((k:Int)<iN (r.map (AV.int .i64)).length)) rfl (fun hlt1=>T.skip ?_) (fun hge1=>T.exit ?_)
   .have hkl:k<r.length:=by have:=of_decide_eq_true hlt1;simp only[iN,Tw] at this;omega
    have hwk:r[k]?=some (r.getD k 0):=Az 0 hkl;have hwm:r.getD k 0∈r:=Tx hwk;generalize hwd:r.getD k 0=w at hwk hwm;obtain⟨w0,w1⟩:=hr2 w hwm;have hwl:w.toNat<g.length:=by omega
    have hsw:=gsA w.toNat hwl;have hmw:=N4 m2 hwl;show T Uu 0 _ _ _;refine T.seq ?_;refine T.block ?_;refine T.seq ?_;refine T.ops (st':=?su13) ?steps13 ?post13
    case steps13=>refine .av (.lst (gL g)) rfl rfl rfl (by kernel_rfl) ?_;refine .av (.int .i64 x) rfl rfl rfl (by kernel_rfl) ?_;refine .va (.iptr [lI r]) rfl rfl rfl (CL (es:=gL g) (m:=x) (e:=lI r) rfl rfl rfl E7 (by omega) hgl rfl) ?_;refine .va (lI r) rfl rfl rfl (CX rfl rfl ET rfl rfl) ?_;refine .av (.int .i64 (k:Int)) rfl rfl rfl (by kernel_rfl) ?_;refine .va (.iptr [.int .i64 w]) rfl rfl rfl (CL (es:=r.map (AV.int .i64)) (m:=(k:Int)) (e:=.int .i64 w) rfl rfl rfl Kx (by omega) (by rw[TC,TD,hwk];rfl) rfl) ?_;refine .va (.int .i64 w) rfl rfl rfl (CX rfl rfl tsz3 rfl rfl) ?_;refine .av (.int .i64 w) rfl rfl rfl (by kernel_rfl) ?_;exact .nil _
    show T Uu 0 _ _ _;refine T.seq ?_;cases hso:s.getD w.toNat true with
    | true=>
     refine T.opsN ?_;refine .av (.lst (boL s)) rfl rfl rfl (by kernel_rfl) ?_;refine .av (.int .i64 w) rfl rfl rfl (by kernel_rfl) ?_;refine .val (v:=.iptr [.bool true]) (noG rfl) rfl (nL rfl) (CL (es:=boL s) (m:=w) (e:=.bool true) rfl rfl rfl D5 (by omega) (by rw[hsw,hso]) rfl) ?_;refine .val (v:=.bool true) (noG rfl) rfl (nL rfl) (CX rfl rfl D2 rfl rfl) ?_;refine .av (.bool false) rfl rfl rfl (by kernel_rfl) ?_;refine .av (.bool false) rfl rfl rfl (by kernel_rfl) ?_;refine .skp (kk:=5) (g:=54) (want:=true) rfl rfl rfl rfl (nL rfl) ?_;refine .skp (kk:=5) (g:=54) (want:=true) rfl rfl rfl rfl (nL rfl) ?_;refine .skp (kk:=5) (g:=54) (want:=true) rfl rfl rfl rfl (nL rfl) ?_;refine .skp (kk:=5) (g:=54) (want:=true) rfl rfl rfl rfl (nL rfl) ?_;refine .skp (kk:=5) (g:=54) (want:=true) rfl rfl rfl rfl (nL rfl) ?_;refine .av (.bool false) rfl rfl rfl (by kernel_rfl) ?_;refine .nil ?_;show T Uu 0 _ _ _;refine T.cond_false rfl (T.skip ?_);show T Uu 0 _ _ _;refine T.ops (st':=?su14) ?steps14 ?post14
     case steps14=>refine .av (.int .i64 (k:Int)) rfl rfl rfl (by kernel_rfl) ?_;refine .av (.int .i64 (i64.wrap ((k:Int)+1))) rfl rfl rfl (by kernel_rfl) ?_;refine .av (.int .i64 (i64.wrap ((k:Int)+1))) rfl rfl rfl (by kernel_rfl) ?_;exact .nil _
     show ∃j,_;refine⟨(k+1,⟨m2,es2,su2,i2,b2,hp2⟩),Ren.keys ⟨rfl,rfl,rfl,rfl,rfl,(by show AV.int .i64 ((k+1:Nat):Int)=AV.int .i64 (i64.wrap ((k:Int)+1));rw[zW k (by omega)]),trivial⟩,⟨hkl,hI2,hJ2,hmx,fun j w' hj hw' ho=>?_,hmu⟩,by show r.length-(k+1)<r.length-k;omega⟩
     .by_cases hjk:j=k
      .subst hjk;rw[hwk] at hw';cases hw';rw[hso] at ho;cases ho
      .exact hdone j w' (by omega) hw' ho
    | false=>
     cases hmv:m2 w.toNat with
     | true=>
      rw[hmv] at hmw;refine T.opsN ?_;refine .av (.lst (boL s)) rfl rfl rfl (by kernel_rfl) ?_;refine .av (.int .i64 w) rfl rfl rfl (by kernel_rfl) ?_;refine .val (v:=.iptr [.bool false]) (noG rfl) rfl (nL rfl) (CL (es:=boL s) (m:=w) (e:=.bool false) rfl rfl rfl D5 (by omega) (by rw[hsw,hso]) rfl) ?_;refine .val (v:=.bool false) (noG rfl) rfl (nL rfl) (CX rfl rfl D2 rfl rfl) ?_;refine .av (.bool true) rfl rfl rfl (by kernel_rfl) ?_;refine .av (.bool true) rfl rfl rfl (by kernel_rfl) ?_;refine .val (v:=.sl 0 0 (gL g).length) (isG (kk:=5) (g:=54) rfl rfl rfl) rfl (nL rfl) (BV rfl (hint:=.no) (R:={v:=.sl 0 0 (gL g).length}) (p:=True) (by kernel_rfl) trivial).1 ?_;refine .val (v:=.int .i64 w) (isG (kk:=5) (g:=54) rfl rfl rfl) rfl (nL rfl) (BV rfl (hint:=.no) (R:={v:=.int .i64 w}) (p:=True) (by kernel_rfl) trivial).1 ?_;refine .val (v:=.ptr 0 (0+w.toNat) 0) (isG (kk:=5) (g:=54) rfl rfl rfl) rfl (nL rfl) (Dp (m:=w) rfl rfl rfl D5 hI2.top rfl ⟨by omega,by omega⟩) ?_;refine .val (v:=.bool true) (isG (kk:=5) (g:=54) rfl rfl rfl) rfl (nL rfl) (Ej rfl rfl hI2.top (by rw[TI];exact hmw) D2 rfl rfl) ?_;refine .val (v:=.bool false) (isG (kk:=5) (g:=54) rfl rfl rfl) rfl (nL rfl) (BV rfl (hint:=.no) (R:={v:=.bool false}) (p:=True) (by kernel_rfl) trivial).1 ?_;refine .av (.bool false) rfl rfl rfl (by kernel_rfl) ?_;refine .nil ?_;show T Uu 0 _ _ _;refine T.cond_false rfl (T.skip ?_);show T Uu 0 _ _ _;refine T.ops (st':=?su15) ?steps15 ?post15
      case steps15=>refine .av (.int .i64 (k:Int)) rfl rfl rfl (by kernel_rfl) ?_;refine .av (.int .i64 (i64.wrap ((k:Int)+1))) rfl rfl rfl (by kernel_rfl) ?_;refine .av (.int .i64 (i64.wrap ((k:Int)+1))) rfl rfl rfl (by kernel_rfl) ?_;exact .nil _
      show ∃j,_;refine⟨(k+1,⟨m2,es2,su2,i2,b2,hp2⟩),Ren.keys ⟨rfl,rfl,rfl,rfl,rfl,(by show AV.int .i64 ((k+1:Nat):Int)=AV.int .i64 (i64.wrap ((k:Int)+1));rw[zW k (by omega)]),trivial⟩,⟨hkl,hI2,hJ2,hmx,fun j w' hj hw' ho=>?_,hmu⟩,by show r.length-(k+1)<r.length-k;omega⟩
      .by_cases hjk:j=k
       .subst hjk;rw[hwk] at hw';cases hw';exact hmv
       .exact hdone j w' (by omega) hw' ho
     | false=>
      rw[hmv] at hmw;refine T.opsN ?_;refine .av (.lst (boL s)) rfl rfl rfl (by kernel_rfl) ?_;refine .av (.int .i64 w) rfl rfl rfl (by kernel_rfl) ?_;refine .val (v:=.iptr [.bool false]) (noG rfl) rfl (nL rfl) (CL (es:=boL s) (m:=w) (e:=.bool false) rfl rfl rfl D5 (by omega) (by rw[hsw,hso]) rfl) ?_;refine .val (v:=.bool false) (noG rfl) rfl (nL rfl) (CX rfl rfl D2 rfl rfl) ?_;refine .av (.bool true) rfl rfl rfl (by kernel_rfl) ?_;refine .av (.bool true) rfl rfl rfl (by kernel_rfl) ?_;refine .val (v:=.sl 0 0 (gL g).length) (isG (kk:=5) (g:=54) rfl rfl rfl) rfl (nL rfl) (BV rfl (hint:=.no) (R:={v:=.sl 0 0 (gL g).length}) (p:=True) (by kernel_rfl) trivial).1 ?_;refine .val (v:=.int .i64 w) (isG (kk:=5) (g:=54) rfl rfl rfl) rfl (nL rfl) (BV rfl (hint:=.no) (R:={v:=.int .i64 w}) (p:=True) (by kernel_rfl) trivial).1 ?_;refine .val (v:=.ptr 0 (0+w.toNat) 0) (isG (kk:=5) (g:=54) rfl rfl rfl) rfl (nL rfl) (Dp (m:=w) rfl rfl rfl D5 hI2.top rfl ⟨by omega,by omega⟩) ?_;refine .val (v:=.bool false) (isG (kk:=5) (g:=54) rfl rfl rfl) rfl (nL rfl) (Ej rfl rfl hI2.top (by rw[TI];exact hmw) D2 rfl rfl) ?_;refine .val (v:=.bool true) (isG (kk:=5) (g:=54) rfl rfl rfl) rfl (nL rfl) (BV rfl (hint:=.no) (R:={v:=.bool true}) (p:=True) (by kernel_rfl) trivial).1 ?_;refine .av (.bool true) rfl rfl rfl (by kernel_rfl) ?_;refine .nil ?_;show T Uu 0 _ _ _;refine T.cond_true rfl (T.seq ?_);refine T.ops (st':=?su16) ?steps16 ?post16
      case steps16=>
       refine .av (.sl 0 0 (gL g).length) rfl rfl rfl (by kernel_rfl) ?_;refine .av (.int .i64 w) rfl rfl rfl (by kernel_rfl) ?_;refine .va (.ptr 0 (0+w.toNat) 0) rfl rfl rfl (Dp (m:=w) rfl rfl rfl D5 hI2.top rfl ⟨by omega,by omega⟩) ?_;refine .chg (v:=.unk) (blk:=bK ((bsA m2 g.length).set (0+w.toNat) (.bool true)) 1) rfl rfl hI2.top rfl ?_ ?_
       rotate_left
       exact .nil _;exact La (x:=.tmp 63) (y:=.const (.bool true)) (e:=.bool true) rfl rfl hI2.top rfl D2 rfl rfl rfl (show 0+w.toNat<(bsA m2 g.length).length by rw[F0];omega) (TE _) rfl (fun kk c hc=>.inl (by
        match kk,hc with
        | 0,hc=>exact⟨TE _,Nat.lt_add_one _,hc⟩)) rfl
      show T Uu 0 _ _ _;have hl2:=Df hI2.blk;have hln1:(hp2.set 0 (some (bK ((bsA m2 g.length).set (0+w.toNat) (.bool true)) 1))).length=hp2.length:=by simp
      have hln2:((hp2.set 0 (some (bK ((bsA m2 g.length).set (0+w.toNat) (.bool true)) 1)))++[some (bK [.int .i64 w] 1)]).length=hp2.length+1:=by simp
      have hb1:nth ((hp2.set 0 (some (bK ((bsA m2 g.length).set (0+w.toNat) (.bool true)) 1)))++[some (bK [.int .i64 w] 1)]) b2=some (bK es2 1):=by rw[B6,Tq (by simp;omega),CZ,Ts (fun e=>by have:=hI2.pos;omega)];exact hI2.blk
      have hb2:nth ((hp2.set 0 (some (bK ((bsA m2 g.length).set (0+w.toNat) (.bool true)) 1)))++[some (bK [.int .i64 w] 1)]) hp2.length=some (bK [.int .i64 w] 1):=by rw[B6,Ts (by simp),T4,Tc];rfl
      have hsiz:=hI2.siz;refine T.opsN ?_;refine .av (.sl b2 i2 su2.length) rfl rfl rfl (by kernel_rfl) ?_;refine .av (.int .i64 w) rfl rfl rfl (by kernel_rfl) ?_;refine .new (v:=.sl (hp2.set 0 (some (bK ((bsA m2 g.length).set (0+w.toNat) (.bool true)) 1))).length 0 1) (blk:=bK [.int .i64 w] 1) (noG rfl) rfl (nL rfl) (FS rfl (by kernel_rfl)) ?_;refine .q (b:=b2) (i:=i2) (z:=1) (es:=es2) (src:=[.int .i64 w]) (flat:=true) rfl rfl (nL rfl) hb1 rfl (TF _) ?_ fun es3 i3 e1 e2 e3=>?_
      .have hy:B5 (nth ((hp2.set 0 (some (bK ((bsA m2 g.length).set (0+w.toNat) (.bool true)) 1)))++[some (bK [.int .i64 w] 1)])) (.sl (hp2.set 0 (some (bK ((bsA m2 g.length).set (0+w.toNat) (.bool true)) 1))).length 0 1)=some [.int .i64 w]:=by unfold B5;simp only[hln1,hb2];rfl
       have hf:BD (nth ((hp2.set 0 (some (bK ((bsA m2 g.length).set (0+w.toNat) (.bool true)) 1)))++[some (bK [.int .i64 w] 1)])) 1 (.sl (hp2.set 0 (some (bK ((bsA m2 g.length).set (0+w.toNat) (.bool true)) 1))).length 0 1):=by unfold BD;simp only[hln1,hb2];exact⟨trivial,TE _⟩
       have hsf:Bb (nth ((hp2.set 0 (some (bK ((bsA m2 g.length).set (0+w.toNat) (.bool true)) 1)))++[some (bK [.int .i64 w] 1)])) (.sl (hp2.set 0 (some (bK ((bsA m2 g.length).set (0+w.toNat) (.bool true)) 1))).length 0 1)=true:=by unfold Bb;simp only[hln1,hb2]
       exact SC (x:=.tmp 64) (y:=.tmp 66) (n:=su2.length) rfl LX rfl hb1 rfl rfl (show i2+su2.length=es2.length by have:=hI2.le;omega) hy hf (by simp) (by show es2.length+1<=_;omega) (by show(es2.length+1) * 8<=_;omega) (by show(true&&Bb _ (.sl (hp2.set 0 (some (bK ((bsA m2 g.length).set (0+w.toNat) (.bool true)) 1))).length 0 1))=true;rw[hsf];rfl)
      refine .av (.sl ((hp2.set 0 (some (bK ((bsA m2 g.length).set (0+w.toNat) (.bool true)) 1)))++[some (bK [.int .i64 w] 1)]).length i3 (es3.length-i3)) rfl rfl rfl (by kernel_rfl) ?_;refine .nil ?_;have hln3:es3.length-i3=(su2++[w]).length:=by have:=congrArg List.length e2;rw[Th,hI2.dr,TQ,Tw] at this;rw[TQ];simpa using this
      have hcu:=JK hmv 24;rw[Tq (by omega)] at hcu;have hup:∀u,m2 u=true->BZ m2 w.toNat u=true:=fun u hu=>by rw[BE];split<;>first | rfl | exact hu
      have hwx:w.toNat≠x.toNat:=fun e=>by rw[e,hmx] at hmv;cases hmv
      have hln4:(su2++[w]).length=su2.length+1:=by simp
      have hsz2:=hJ2.size;have e3':es3.length<=es2.length+1:=e3;have hJ3:FdJ g s v (BZ m2 w.toNat) (su2++[w]) (fun u=>u=x.toNat):=by
       refine⟨fun u hu=>?_,hup _ hJ2.start,fun y hy=>?_,fun u hu hn hex z hz ho=>?_,by omega⟩
       .rw[BE] at hu;split at hu
        .rename_i e;subst e;exact .step (hJ2.sound _ hmx) (by rw[hrr,TX w0];exact hwm) hso
        .exact hJ2.sound u hu
       .rcases T0.1 hy with h | h
        .obtain⟨a,b,c⟩:=hJ2.stk y h;exact⟨a,b,hup _ c⟩
        .rw[Tj.1 h];exact⟨w0,w1,by rw[BE,Tq rfl]⟩
       .have hne:u≠w.toNat:=fun e=>hn (by rw[e,TX w0];simp)
        rw[BE,Ts hne] at hu;exact hup _ (hJ2.closed u hu (fun h=>hn (List.mem_append_left _ h)) hex z hz ho)
      show T Uu 0 _ _ _;refine T.ops (st':=?su17) ?steps17 ?post17
      case steps17=>refine .av (.int .i64 (k:Int)) rfl rfl rfl (by kernel_rfl) ?_;refine .av (.int .i64 (i64.wrap ((k:Int)+1))) rfl rfl rfl (by kernel_rfl) ?_;refine .av (.int .i64 (i64.wrap ((k:Int)+1))) rfl rfl rfl (by kernel_rfl) ?_;exact .nil _
      show ∃j,_;refine⟨(k+1,⟨BZ m2 w.toNat,es3,su2++[w],i3,((hp2.set 0 (some (bK ((bsA m2 g.length).set (0+w.toNat) (.bool true)) 1)))++[some (bK [.int .i64 w] 1)]).length,(((hp2.set 0 (some (bK ((bsA m2 g.length).set (0+w.toNat) (.bool true)) 1)))++[some (bK [.int .i64 w] 1)]).set b2 none++[some (bK es3 1)])⟩),Ren.keys ⟨rfl,rfl,rfl,(by show AV.sl ((hp2.set 0 (some (bK ((bsA m2 g.length).set (0+w.toNat) (.bool true)) 1)))++[some (bK [.int .i64 w] 1)]).length i3 (su2++[w]).length=AV.sl ((hp2.set 0 (some (bK ((bsA m2 g.length).set (0+w.toNat) (.bool true)) 1)))++[some (bK [.int .i64 w] 1)]).length i3 (es3.length-i3);rw[hln3]),rfl,(by show AV.int .i64 ((k+1:Nat):Int)=AV.int .i64 (i64.wrap ((k:Int)+1));rw[zW k (by omega)]),trivial⟩,⟨hkl,⟨?_,?_,?_,?_,?_,e1⟩,hJ3,hup _ hmx,fun j w' hj hw' ho=>?_,?_⟩,by show r.length-(k+1)<r.length-k;omega⟩
      .show nth (((hp2.set 0 (some (bK ((bsA m2 g.length).set (0+w.toNat) (.bool true)) 1)))++[some (bK [.int .i64 w] 1)]).set b2 none++[some (bK es3 1)]) 0=_;rw[B6,Tq (by simp),CZ,Ts (fun e=>by have:=hI2.pos;omega),B6,Tq (by simp;omega),CZ,Tq ⟨rfl,by omega⟩,Qs]
      .show nth (((hp2.set 0 (some (bK ((bsA m2 g.length).set (0+w.toNat) (.bool true)) 1)))++[some (bK [.int .i64 w] 1)]).set b2 none++[some (bK es3 1)]) ((hp2.set 0 (some (bK ((bsA m2 g.length).set (0+w.toNat) (.bool true)) 1)))++[some (bK [.int .i64 w] 1)]).length=_;rw[B6,Ts (by simp),T4,Tc];rfl
      .show 1<=((hp2.set 0 (some (bK ((bsA m2 g.length).set (0+w.toNat) (.bool true)) 1)))++[some (bK [.int .i64 w] 1)]).length;rw[hln2];omega
      .show es3.drop i3=(su2++[w]).map (AV.int .i64);rw[e2,hI2.dr,TG];rfl
      .show es3.length+cUn (BZ m2 w.toNat) 24<=24;omega
      .by_cases hjk:j=k
       .subst hjk;rw[hwk] at hw';cases hw';show BZ m2 w.toNat w.toNat=true;rw[BE,Tq rfl]
       .exact hup _ (hdone j w' (by omega) hw' ho)
      .show 2 * cUn (BZ m2 w.toNat) 24+(su2++[w]).length<_;omega
   .have hke:k=r.length:=by have:=of_decide_eq_false hge1;simp only[iN,Tw] at this;omega
    simp only[andThen,Cp,↓reduceIte];show ∃j,_;refine⟨⟨m2,es2,su2,i2,b2,hp2⟩,Ren.keys ⟨rfl,rfl,rfl,rfl,trivial⟩,⟨hI2,⟨hJ2.sound,hJ2.start,hJ2.stk,fun u hu hn _ w hw ho=>?_,hJ2.size⟩⟩,hmu⟩
    .by_cases hux:u=x.toNat
     .subst hux;rw[hrr] at hw;obtain⟨j,hj⟩:=List.getElem?_of_mem hw;have hjl:=(Tv.1 hj).1;have:=hdone j _ (by omega) hj (by simpa using ho);simpa using this
     .exact hJ2.closed u hu hn hux w hw ho
  .have h0:st=[]:=by refine List.eq_nil_of_length_eq_zero ?_;have:=of_decide_eq_false hge;simp only[iN] at this;omega
   subst h0;simp only[andThen,Cp,↓reduceIte];show T Uu 0 _ _ _;refine T.seq ?_;refine T.ops (st':=?su18) ?steps18 ?post18
   case steps18=>refine .av (.sl 0 0 (gL g).length) rfl rfl rfl (by kernel_rfl) ?_;refine .av (.sl 0 0 (gL g).length) rfl rfl rfl (by kernel_rfl) ?_;exact .nil _
   show T Uu 0 _ _ _;refine T.ret ?_;have hend:=Nf hJ;refine⟨.inr rfl,.sl 0 0 (gL g).length,⟨Tryz.f161.ntmps,[(0,.lst (bsA (mkB g s v) g.length))],[]⟩,rfl,Pa (by rw[<-hend];exact hI.top) (by rw[F0,hlg]),rfl,rfl,(nL rfl)⟩
end Go.Proofs.YthjgbnbibebigaaGreat
set_option maxHeartbeats 4000000
namespace Go.Proofs.YthjgbnbibebigaaGreat
def N7(g:List (List Int))(sh:List Bool):Option (Empty⊕Ret):=gu (VG g) <|br (iN (boL sh).length != iN (gL g).length) (some (.inr ([],iV 19))) (some (.inr ([],iV 0)))
theorem chx_ct(g:List (List Int))(sh:List Bool)(r:Ret)(h:Ac emT (N7 g sh) r):CT Uu 145 ([]) ([.lst (gL g),.lst (boL sh)]) r.1 r.2:=
 CT.mach (fn:=Tryz.f145) (c:=zB Tryz.f145) (S:=emS) (hd:=emH) Tryz.func145 (by kernel_rfl) (nL rfl)
  (fun s o ho=>match s,ho with
   | x,_=>x.elim)
  (fun o ho=>Scr.ok (X:=N7 g sh) ho mix (
 .rn 0 [] [] [] [] s2 <|
 .gu fun a0=>
 have c0:=vld_v a0;
 .rn 1 [] [] [(6,hK c0 [] [])] [] (aj (u2 (aj (k2 (al (c0))) s2)) (ak (al (u2 (u2 (u2 (u2 (al t3)))))))) <|
 .br (fun a1=>
 .rt [25] [] [] [] [] [] (aj (aj a1 s2) t2))
 (fun a1=>
 .rt [24] [] [] [] [] [] (aj (aj a1 s2) t2))) (by kernel_rfl)) h
theorem fd_m{g:List (List Int)}{s:List Bool}{q:Int}(hg:GOk g)(hs:s.length=g.length)(hq:0<=q/\q<(g.length:Int)):CT Uu 98 [] [.lst (gL g),.lst (boL s),.int .i64 q] [] (.agg [.bool (mkB g s q.toNat 0),.bool (mkB g s q.toNat 1),.bool (mkB g s q.toNat 2),.bool (mkB g s q.toNat 3),.bool (mkB g s q.toNat 4),.bool (mkB g s q.toNat 5),.bool (mkB g s q.toNat 6),.bool (mkB g s q.toNat 7),.bool (mkB g s q.toNat 8),.bool (mkB g s q.toNat 9),.bool (mkB g s q.toNat 10),.bool (mkB g s q.toNat 11),.bool (mkB g s q.toNat 12),.bool (mkB g s q.toNat 13),.bool (mkB g s q.toNat 14),.bool (mkB g s q.toNat 15),.bool (mkB g s q.toNat 16),.bool (mkB g s q.toNat 17),.bool (mkB g s q.toNat 18),.bool (mkB g s q.toNat 19),.bool (mkB g s q.toNat 20),.bool (mkB g s q.toNat 21),.bool (mkB g s q.toNat 22),.bool (mkB g s q.toNat 23)]):=fd_c hg hs q hq
def rcL(g:List (List Int))(s:List Bool)(q:Int):List Bool:=(List.range g.length).map (mkB g s q.toNat)
theorem reach_m{g:List (List Int)}{s:List Bool}{q:Int}(hg:GOk g)(hs:s.length=g.length)(hq:0<=q/\q<(g.length:Int)):CT Uu 161 [] [.lst (gL g),.lst (boL s),.int .i64 q] [] (.lst (boL (rcL g s q))):=by obtain⟨v,rfl⟩:∃v:Nat,q=v:=⟨q.toNat,by omega⟩;have:=reach_ct hg hs (v:=v) (by omega);unfold rcL;rw[TC];exact this
theorem check4_x{g:List (List Int)}(s:List Bool)(hrw:VG g):CT Uu 145 [] [.lst (gL g),.lst (boL s)] [] (.int .i64 (CE g s)):=by
 refine chx_ct g s ([],_) (.val ?_);unfold N7 CE;rw[Ab hrw,Tq (OY.2 hrw),A9,Cq];by_cases h:s.length=g.length
 .rw[Ad (by rw[h];simp),Ts (by simp[h])]
 .rw[Ag (Ui.2 (by simp only[iN];omega)),Tq h]
def Mr(n:Aa)(sp:Int):Option (Empty⊕Ret):=gu (RwV n) <|br (!Bc n) (some (.inr ([],iV 20))) (br (decide (sp<0)) (some (.inr ([],iV 19))) (br (decide (iN (Un sA n.ss).length<=sp)) (some (.inr ([],iV 19))) (some (.inr ([],iV 0)))))
theorem ckS_ct(n:Aa)(sp:Int)(r:Ret)(h:Ac emT (Mr n sp) r):CT Uu 128 ([]) ([Aj n,.int .i64 sp]) r.1 r.2:=
 CT.mach (fn:=Tryz.f128) (c:=zB Tryz.f128) (S:=emS) (hd:=emH) Tryz.func128 (by kernel_rfl) (nL rfl)
  (fun s o ho=>match s,ho with
   | x,_=>x.elim)
  (fun o ho=>Scr.ok (X:=Mr n sp) ho mix (
 .rn 0 [] [] [] [] (al (u2 t2)) <|
 .gu fun a0=>
 have c0:=FP a0;
 .rn 0 [] [] [(7,hK c0 [] [])] [] (al (u2 (aj (ak (aj t9 (al (c0)))) (u2 s2)))) <|
 .br (fun a1=>
 .rt [11] [] [] [] [] [] (aj (aj a1 s2) t2))
 (fun a1=>
 .br (fun a2=>
  .rt [10,25] [] [] [] [] [] (aj (aj a1 (aj (u2 (u2 (u2 (aj a2 (aj a2 (aj a2 (aj a2 (aj a2 (ag a2 s2))))))))) (ak s2))) t2))
 (fun a2=>
  .rn 0 [10,24] [] [] [] (aj a1 (al (u2 (u2 (u2 (ag a2 (ag a2 (ag a2 (ag a2 (aj (aj a2 t3) (ag a2 s2))))))))))) <|
  .br (fun a3=>
  .rt [24,19] [] [] [] [] [] (aj (aj a3 s2) t2))
  (fun a3=>
  .rt [24,18] [] [] [] [] [] (aj (aj a3 s2) t2))))) (by kernel_rfl)) h
def L2(n:Aa):Option (Empty⊕Ret):=gu (RwV n) <|br (!Bc n) (some (.inr ([],AV.tup [iV 0,iV 20]))) (gu (Aq n) <|some (.inr ([],AV.tup [iV (iN (Ao n)),iV 0])))
theorem cnt_ct(n:Aa)(r:Ret)(h:Ac emT (L2 n) r):CT Uu 96 ([]) ([Aj n]) r.1 r.2:=
 CT.mach (fn:=Tryz.f96) (c:=zB Tryz.f96) (S:=emS) (hd:=emH) Tryz.func96 (by kernel_rfl) (nL rfl)
  (fun s o ho=>match s,ho with
   | x,_=>x.elim)
  (fun o ho=>Scr.ok (X:=L2 n) ho mix (
 .rn 0 [] [] [] [] (al (u2 t3)) <|
 .gu fun a0=>
 have c0:=FP a0;
 .rn 0 [] [] [(5,hK c0 [] [])] [] (al (u2 (aj (ak (aj t9 (al (c0)))) s2))) <|
 .br (fun a1=>
 .rt [13] [] [] [] [] [] (aj (aj a1 (al t3)) (al t3)))
 (fun a1=>
 .gu fun a2=>
 have c1:=Nl a2;
 .rt [12] [] [(8,hK c1 [] [])] [] [] [] (aj (aj a1 (al (u2 (aj (ak (aj t9 (al (c1)))) (u2 t2))))) (al t3)))) (by kernel_rfl)) h
def csE(n:Aa)(sp:Int):Int:=if Bc n=true then (if sp<0\/(n.ss.length:Int)<=sp then 19 else 0) else 20
theorem R2{n:Aa}(hrw:RwV n)(sp:Int):CT Uu 128 [] [Aj n,.int .i64 sp] [] (.int .i64 (csE n sp)):=by
 refine ckS_ct n sp ([],_) (.val ?_);unfold Mr csE;rw[Ab hrw];cases hv:Bc n with
 | false=>rfl
 | true=>
  rw[Ad (by rfl),Tq rfl];by_cases h0:sp<0
  .rw[Ag (AC h0),Tq (.inl h0)]
  by_cases h1:(n.ss.length:Int)<=sp
  .rw[Ad (AD h0),Ag (AC (by simpa [iN] using h1)),Tq (.inr h1)]
  .rw[Ad (AD h0),Ad (AD (by simpa [iN] using h1)),Ts (by omega)]
def Bs(n:Aa):Int:=if Bc n=true then (Ao n:Int) else 0
def Db(n:Aa):Int:=if Bc n=true then 0 else 20
theorem NZ{n:Aa}(hrw:RwV n):CT Uu 96 [] [Aj n] [] (.tup [.int .i64 (Bs n),.int .i64 (Db n)]):=by
 refine cnt_ct n ([],_) (.val ?_);unfold L2 Bs Db;rw[Ab hrw];cases hv:Bc n with
 | false=>rfl
 | true=>rw[Ad (by rfl),Ab (BH.1 hv)];rfl
theorem csE_zero{n:Aa}{sp:Int}(h:csE n sp=0):Aq n/\0<=sp/\sp<n.ss.length:=by
 unfold csE at h;split at h
 .rename_i hv;split at h
  .omega
  .exact⟨BH.1 hv,by omega,by omega⟩
 .omega
inductive EG where | l0 (v0:Int) | l1 (v0:Int) (v1 v2 v3 v4 v5 v6 v7 v8 v9 v10 v11 v12 v13 v14 v15 v16 v17 v18 v19 v20 v21 v22 v23 v24 v25 v26 v27 v28 v29 v30 v31 v32 v33 v34 v35 v36 v37 v38 v39 v40 v41 v42 v43 v44 v45 v46 v47 v48:Bool)
def mutSt(g:List (List Int))(sh:List Bool):EG->St | .l0 v0=>St.mk 66 [(0,Ut (gL g)),(1,Ut (boL sh)),(6,Ut (gL (rvO g))),(27,Ut (boL sh)),(28,iv (iN (boL sh).length)),(29,iv v0)] [] | .l1 v0 v1 v2 v3 v4 v5 v6 v7 v8 v9 v10 v11 v12 v13 v14 v15 v16 v17 v18 v19 v20 v21 v22 v23 v24 v25 v26 v27 v28 v29 v30 v31 v32 v33 v34 v35 v36 v37 v38 v39 v40 v41 v42 v43 v44 v45 v46 v47 v48=>St.mk 66 [(10,AV.ptr 0 0 0),(11,AV.ptr 1 0 0),(43,Ut (boL sh)),(44,iv (iN (boL sh).length)),(45,iv v0)] [some (bK [AV.agg [bV v1,bV v2,bV v3,bV v4,bV v5,bV v6,bV v7,bV v8,bV v9,bV v10,bV v11,bV v12,bV v13,bV v14,bV v15,bV v16,bV v17,bV v18,bV v19,bV v20,bV v21,bV v22,bV v23,bV v24]] 24),some (bK [AV.agg [bV v25,bV v26,bV v27,bV v28,bV v29,bV v30,bV v31,bV v32,bV v33,bV v34,bV v35,bV v36,bV v37,bV v38,bV v39,bV v40,bV v41,bV v42,bV v43,bV v44,bV v45,bV v46,bV v47,bV v48]] 24)]
def MW(g:List (List Int))(sh:List Bool):Option (EG⊕Ret):=gu (VG g) <|br (rvE g != 0) (some (.inr ([],AV.tup [bV false,iV (rvE g)]))) (br (iN (boL sh).length != iN (gL g).length) (some (.inr ([],AV.tup [bV false,iV 19]))) (some (.inl (.l0 ((0:Int))))))
def EA(g:List (List Int))(sh:List Bool)(v0:Int):Option (EG⊕Ret):=br (decide (v0<iN (boL sh).length)) (gu (0<=v0) <|el (sh) (v0.toNat) fun(x32:Bool)=>br x32 (some (.inl (.l0 (i64.wrap (v0+1))))) (gu (GOk g) <|gu (sh.length=g.length) <|gu (0<=v0/\v0<iN g.length) <|gu (GOk (rvO g)) <|gu (sh.length=(rvO g).length) <|gu (0<=v0/\v0<iN (rvO g).length) <|some (.inl (.l1 ((0:Int)) (mkB g sh v0.toNat 0) (mkB g sh v0.toNat 1) (mkB g sh v0.toNat 2) (mkB g sh v0.toNat 3) (mkB g sh v0.toNat 4) (mkB g sh v0.toNat 5) (mkB g sh v0.toNat 6) (mkB g sh v0.toNat 7) (mkB g sh v0.toNat 8) (mkB g sh v0.toNat 9) (mkB g sh v0.toNat 10) (mkB g sh v0.toNat 11) (mkB g sh v0.toNat 12) (mkB g sh v0.toNat 13) (mkB g sh v0.toNat 14) (mkB g sh v0.toNat 15) (mkB g sh v0.toNat 16) (mkB g sh v0.toNat 17) (mkB g sh v0.toNat 18) (mkB g sh v0.toNat 19) (mkB g sh v0.toNat 20) (mkB g sh v0.toNat 21) (mkB g sh v0.toNat 22) (mkB g sh v0.toNat 23) (mkB (rvO g) sh v0.toNat 0) (mkB (rvO g) sh v0.toNat 1) (mkB (rvO g) sh v0.toNat 2) (mkB (rvO g) sh v0.toNat 3) (mkB (rvO g) sh v0.toNat 4) (mkB (rvO g) sh v0.toNat 5) (mkB (rvO g) sh v0.toNat 6) (mkB (rvO g) sh v0.toNat 7) (mkB (rvO g) sh v0.toNat 8) (mkB (rvO g) sh v0.toNat 9) (mkB (rvO g) sh v0.toNat 10) (mkB (rvO g) sh v0.toNat 11) (mkB (rvO g) sh v0.toNat 12) (mkB (rvO g) sh v0.toNat 13) (mkB (rvO g) sh v0.toNat 14) (mkB (rvO g) sh v0.toNat 15) (mkB (rvO g) sh v0.toNat 16) (mkB (rvO g) sh v0.toNat 17) (mkB (rvO g) sh v0.toNat 18) (mkB (rvO g) sh v0.toNat 19) (mkB (rvO g) sh v0.toNat 20) (mkB (rvO g) sh v0.toNat 21) (mkB (rvO g) sh v0.toNat 22) (mkB (rvO g) sh v0.toNat 23))))) (some (.inr ([],AV.tup [bV false,iV 0])))
def CG(g:List (List Int))(sh:List Bool)(v0:Int)(v1 v2 v3 v4 v5 v6 v7 v8 v9 v10 v11 v12 v13 v14 v15 v16 v17 v18 v19 v20 v21 v22 v23 v24 v25 v26 v27 v28 v29 v30 v31 v32 v33 v34 v35 v36 v37 v38 v39 v40 v41 v42 v43 v44 v45 v46 v47 v48:Bool):Option (EG⊕Ret):=br (decide (v0<iN (boL sh).length)) (gu (0<=v0) <|el (sh) (v0.toNat) fun(x48:Bool)=>br (!x48) (gu (v0<24) <|el ([v1,v2,v3,v4,v5,v6,v7,v8,v9,v10,v11,v12,v13,v14,v15,v16,v17,v18,v19,v20,v21,v22,v23,v24]) (0+v0.toNat * 1) fun(x55:Bool)=>br (!x55) (some (.inr ([],AV.tup [bV false,iV 0]))) (el ([v25,v26,v27,v28,v29,v30,v31,v32,v33,v34,v35,v36,v37,v38,v39,v40,v41,v42,v43,v44,v45,v46,v47,v48]) (0+v0.toNat * 1) fun(x60:Bool)=>br (!x60) (some (.inr ([],AV.tup [bV false,iV 0]))) (some (.inl (.l1 (i64.wrap (v0+1)) v1 v2 v3 v4 v5 v6 v7 v8 v9 v10 v11 v12 v13 v14 v15 v16 v17 v18 v19 v20 v21 v22 v23 v24 v25 v26 v27 v28 v29 v30 v31 v32 v33 v34 v35 v36 v37 v38 v39 v40 v41 v42 v43 v44 v45 v46 v47 v48))))) (some (.inl (.l1 (i64.wrap (v0+1)) v1 v2 v3 v4 v5 v6 v7 v8 v9 v10 v11 v12 v13 v14 v15 v16 v17 v18 v19 v20 v21 v22 v23 v24 v25 v26 v27 v28 v29 v30 v31 v32 v33 v34 v35 v36 v37 v38 v39 v40 v41 v42 v43 v44 v45 v46 v47 v48)))) (some (.inr ([],AV.tup [bV true,iV 0])))
def Lx(g:List (List Int))(sh:List Bool):EG->Option (EG⊕Ret) | .l0 v0=>EA g sh v0 | .l1 v0 v1 v2 v3 v4 v5 v6 v7 v8 v9 v10 v11 v12 v13 v14 v15 v16 v17 v18 v19 v20 v21 v22 v23 v24 v25 v26 v27 v28 v29 v30 v31 v32 v33 v34 v35 v36 v37 v38 v39 v40 v41 v42 v43 v44 v45 v46 v47 v48=>CG g sh v0 v1 v2 v3 v4 v5 v6 v7 v8 v9 v10 v11 v12 v13 v14 v15 v16 v17 v18 v19 v20 v21 v22 v23 v24 v25 v26 v27 v28 v29 v30 v31 v32 v33 v34 v35 v36 v37 v38 v39 v40 v41 v42 v43 v44 v45 v46 v47 v48
theorem mut_ct(g:List (List Int))(sh:List Bool)(r:Ret)(h:Ac (Lx g sh) (MW g sh) r):CT Uu 48 ([]) ([.lst (gL g),.lst (boL sh)]) r.1 r.2:=
 CT.mach (fn:=Tryz.f48) (c:=zB Tryz.f48) (S:=(mutSt g sh)) (hd:=EG.ctorIdx) Tryz.func48 (by kernel_rfl) (nL rfl)
  (fun s o ho=>match s,ho with
 | .l0 v0,ho=>Scr.ok (X:=EA g sh v0) ho mix (
 .rn 0 [] [] [] [] (al (al t3)) <|
 .br (fun a0=>
 .gu fun a1=>
 .el fun x32 a2=>
 .rn 1 [61] [(32,bV x32)] [] [] (aj a0 (aj (u2 (aj (k2 (aj a1 (Af (f:=bV) a2))) (u2 (u2 s2)))) (al s2))) <|
 .br (fun a3=>
  .lp [69] [] [] [] [] [] [0,1,6,27,28,29] (aj (aj a3 (al (u2 s2))) t7))
 (fun a3=>
  .gu fun a4=>
  .gu fun a5=>
  .gu fun a6=>
  .gu fun a7=>
  .gu fun a8=>
  .gu fun a9=>
  have c0:=fd_m a4 a5 a6;
  have c1:=fd_m a7 a8 a9;
  .lp [68] [] [(38,hK c0 [] []),(42,hK c1 [] [])] [] [] [0,1] [10,11,43,44,45] (aj (aj a3 (aj (u2 (u2 (u2 (aj (ak (k5 (al (c0)))) (u2 (u2 (u2 (aj (ak (k5 (al (c1)))) (k2 (aj (k2 n11) (al (k2 n11)))))))))))) (al (u2 (u2 t2))))) t8)))
 (fun a0=>
 .rt [60] [] [] [] [] [] (aj (aj a0 (al t3)) (al t3)))) (by kernel_rfl)
 | .l1 v0 v1 v2 v3 v4 v5 v6 v7 v8 v9 v10 v11 v12 v13 v14 v15 v16 v17 v18 v19 v20 v21 v22 v23 v24 v25 v26 v27 v28 v29 v30 v31 v32 v33 v34 v35 v36 v37 v38 v39 v40 v41 v42 v43 v44 v45 v46 v47 v48,ho=>Scr.ok (X:=CG g sh v0 v1 v2 v3 v4 v5 v6 v7 v8 v9 v10 v11 v12 v13 v14 v15 v16 v17 v18 v19 v20 v21 v22 v23 v24 v25 v26 v27 v28 v29 v30 v31 v32 v33 v34 v35 v36 v37 v38 v39 v40 v41 v42 v43 v44 v45 v46 v47 v48) ho mix (
 .rn 0 [] [] [] [] (al (al t3)) <|
 .br (fun a0=>
 .gu fun a1=>
 .el fun x48 a2=>
 .rn 0 [93] [(48,bV x48)] [] [] (aj a0 (al (u2 (aj (k2 (aj a1 (Af (f:=bV) a2))) (u2 (u2 s2)))))) <|
 .br (fun a3=>
  .gu fun a4=>
  .el fun x55 a5=>
  .br (fun a6=>
  .rt [105,115] [(55,AV.tup [bV x55])] [] [] [] [] (aj (aj (u2 (u2 (u2 (ag a3 (aj (aj a3 (k2 (aj a1 a4))) (aj (aj a3 (ak (Af (f:=bV) a5))) (ag a3 (ag a3 (aj a6 (aj a6 (aj a6 (aj a6 (aj (aj a3 (aj a6 t2)) (al (aj a3 t2))))))))))))))) (ak (al t3))) (al t3)))
  (fun a6=>
  .el fun x60 a7=>
  .rn 0 [105,114] [(55,AV.tup [bV x55]),(60,AV.tup [bV x60])] [] [] (al (u2 (u2 (u2 (ag a3 (aj (aj a3 (k2 (aj a1 a4))) (aj (aj a3 (ak (Af (f:=bV) a5))) (ag a3 (ag a3 (ag a6 (aj (aj a6 (k2 (aj a1 a4))) (aj (aj a6 (ak (Af (f:=bV) a7))) (ag a6 (aj (aj a3 (aj a6 t2)) (al (aj a3 t2)))))))))))))))) <|
  .br (fun a8=>
   .rt [105,114,127] [] [] [] [] [] (aj (aj a8 (al t3)) (al t3)))
  (fun a8=>
   .lp [105,114,126] [] [] [] [] [0,1] [10,11,43,44,45] (aj (aj a8 (al (u2 s2))) t8))))
 (fun a3=>
  .lp [104] [] [] [] [] [0,1] [10,11,43,44,45] (aj (aj (u2 (u2 (u2 (aj a3 (aj a3 (aj a3 (aj a3 (aj a3 (ak (k3 (aj a3 (al (aj a3 t2))))))))))))) (ak (al (u2 s2)))) t8)))
 (fun a0=>
 .rt [92] [] [] [] [] [] (aj (aj a0 (al t3)) (al t3)))) (by kernel_rfl)
  )
  (fun o ho=>Scr.ok (X:=MW g sh) ho mix (
 .rn 0 [] [] [] [] (al t3) <|
 .gu fun a0=>
 have c0:=rev_c a0;
 .rn 1 [] [] [(16,hK c0 [] [])] [] (aj (u2 (aj (k2 (al (c0))) (u2 (u2 (u2 (u2 s2)))))) (al (u2 s2))) <|
 .br (fun a1=>
 .rt [41] [] [] [] [] [] (aj (aj a1 (al (u2 (ak s2)))) (al t3)))
 (fun a1=>
 .rn 0 [40] [] [] [] (aj a1 (al (u2 (u2 (u2 (u2 (al t3))))))) <|
 .br (fun a2=>
  .rt [53] [] [] [] [] [] (aj (aj a2 (al t3)) (al t3)))
 (fun a2=>
  .lp [52] [] [] [] [] [] [0,1,6,27,28,29] (aj (aj a2 (al (u2 (u2 t2)))) t7)))) (by kernel_rfl)) h
inductive Fu where | l0 (v0 v1:Int) | l1 (v0 v1:Int) (v2:List Bool) (v3:Int)
def rmuSt(g:List (List Int))(sh:List Bool):Fu->St | .l0 v0 v1=>St.mk 53 [(0,Ut (gL g)),(1,Ut (boL sh)),(7,iv v0),(8,iv v1)] [] | .l1 v0 v1 v2 v3=>St.mk 53 [(0,Ut (gL g)),(1,Ut (boL sh)),(7,iv v0),(8,iv v1),(9,Ut (Un bV v2)),(10,iv v3)] []
def Nb(g:List (List Int))(sh:List Bool):Option (Fu⊕Ret):=gu (VG g) <|br (CE g sh != 0) (some (.inr ([],AV.tup [bV false,iV (CE g sh)]))) (some (.inl (.l0 ((0:Int)) ((0:Int)))))
def EM(g:List (List Int))(sh:List Bool)(v0 v1:Int):Option (Fu⊕Ret):=br (decide (v1<iN (gL g).length)) (gu (0<=v1) <|el (sh) (v1.toNat) fun(x25:Bool)=>br x25 (some (.inl (.l0 v0 (i64.wrap (v1+1))))) (gu (GOk g) <|gu (sh.length=g.length) <|gu (0<=v1/\v1<iN g.length) <|some (.inl (.l1 (i64.wrap (v0+1)) v1 (rcL g sh v1) ((0:Int)))))) (some (.inr ([],AV.tup [bV (decide (0<v0)),iV 0])))
def De(g:List (List Int))(sh:List Bool)(v0 v1:Int)(v2:List Bool)(v3:Int):Option (Fu⊕Ret):=br (decide (v3<iN (gL g).length)) (gu (0<=v3) <|el (sh) (v3.toNat) fun(x41:Bool)=>br (!x41) (el v2 (v3.toNat) fun(x47:Bool)=>br (!x47) (some (.inr ([],AV.tup [bV false,iV 0]))) (some (.inl (.l1 v0 v1 v2 (i64.wrap (v3+1)))))) (some (.inl (.l1 v0 v1 v2 (i64.wrap (v3+1)))))) (some (.inl (.l0 v0 (i64.wrap (v1+1)))))
def Mi(g:List (List Int))(sh:List Bool):Fu->Option (Fu⊕Ret) | .l0 v0 v1=>EM g sh v0 v1 | .l1 v0 v1 v2 v3=>De g sh v0 v1 v2 v3
theorem rmu_ct(g:List (List Int))(sh:List Bool)(r:Ret)(h:Ac (Mi g sh) (Nb g sh) r):CT Uu 148 ([]) ([.lst (gL g),.lst (boL sh)]) r.1 r.2:=
 CT.mach (fn:=Tryz.f148) (c:=zB Tryz.f148) (S:=(rmuSt g sh)) (hd:=Fu.ctorIdx) Tryz.func148 (by kernel_rfl) (nL rfl)
  (fun s o ho=>match s,ho with
 | .l0 v0 v1,ho=>Scr.ok (X:=EM g sh v0 v1) ho mix (
 .rn 0 [] [] [] [] (al (u2 (u2 (u2 (al t3))))) <|
 .br (fun a0=>
 .gu fun a1=>
 .el fun x25 a2=>
 .rn 0 [41] [(25,bV x25)] [] [] (aj a0 (al (u2 (u2 (aj (k2 (aj a1 (Af (f:=bV) a2))) s2))))) <|
 .br (fun a3=>
  .lp [53] [] [] [] [] [] [0,1,7,8] (aj (aj a3 (al (u2 (u2 s2)))) t5))
 (fun a3=>
  .rn 0 [52] [] [] [] (aj a3 (al (u2 (u2 s2)))) <|
  .gu fun a4=>
  .gu fun a5=>
  .gu fun a6=>
  have c0:=reach_m a4 a5 a6;
  .lp [] [] [(32,hK c0 [] [])] [] [] [] [0,1,7,8,9,10] (aj (aj (u2 (u2 (u2 (aj (ak (k5 (al (c0)))) s2)))) s2) t7)))
 (fun a0=>
 .rt [40] [] [] [] [] [] (aj (aj a0 (al (u2 (u2 (u2 t2))))) (al t3)))) (by kernel_rfl)
 | .l1 v0 v1 v2 v3,ho=>Scr.ok (X:=De g sh v0 v1 v2 v3) ho mix (
 .rn 0 [] [] [] [] (al (u2 (u2 (u2 (al t3))))) <|
 .br (fun a0=>
 .gu fun a1=>
 .el fun x41 a2=>
 .br (fun a3=>
  .el fun x47 a4=>
  .rn 0 [73,89] [(41,bV x41),(47,bV x47)] [] [] (aj a0 (al (u2 (u2 (aj (k2 (aj a1 (Af (f:=bV) a2))) (u2 (u2 (u2 (ag a3 (ag a3 (aj (aj a3 (k2 (aj a1 (Af (f:=bV) a4)))) (ag a3 (ag a3 (al (aj a3 t2))))))))))))))) <|
  .br (fun a5=>
  .rt [89,101] [] [] [] [] [] (aj (aj a5 (al t3)) (al t3)))
  (fun a5=>
  .lp [89,100] [] [] [] [] [] [0,1,7,8,9,10] (aj (aj a5 (al (u2 (u2 s2)))) t7)))
 (fun a3=>
  .lp [73,88] [(41,bV x41)] [] [] [] [] [0,1,7,8,9,10] (aj (aj a0 (aj (u2 (u2 (aj (k2 (aj a1 (Af (f:=bV) a2))) (u2 (u2 (u2 (aj a3 (aj a3 (aj a3 (aj a3 (aj a3 (al (aj a3 t2))))))))))))) (ak (al (u2 (u2 s2)))))) t7)))
 (fun a0=>
 .lp [72] [] [] [] [] [] [0,1,7,8] (aj (aj a0 (al (u2 (u2 s2)))) t5))) (by kernel_rfl)
  )
  (fun o ho=>Scr.ok (X:=Nb g sh) ho mix (
 .rn 0 [] [] [] [] (al t3) <|
 .gu fun a0=>
 have c0:=check4_x (sh) a0;
 .rn 1 [] [] [(13,hK c0 [] [])] [] (aj (u2 (u2 (aj (ak (k3 (al (c0)))) s2))) (al (u2 s2))) <|
 .br (fun a1=>
 .rt [31] [] [] [] [] [] (aj (aj a1 (al (u2 (ak s2)))) (al t3)))
 (fun a1=>
 .lp [30] [] [] [] [] [] [0,1,7,8] (aj (aj a1 (u2 s2)) t5))) (by kernel_rfl)) h
theorem Rcv.open1{g:List (List Int)}{s:List Bool}{v k:Nat}(h:Rcv g s v k):s.getD v true=false:=by
 induction h with
 | refl h=>exact h
 | step _ _ _ ih=>exact ih
theorem Rcv.trans{g:List (List Int)}{s:List Bool}{a b c:Nat}(h:Rcv g s a b)(k:Rcv g s b c):Rcv g s a c:=by
 induction k with
 | refl _=>exact h
 | step _ hw ho ih=>exact .step ih hw ho
theorem R5(v:Nat):∀(l:List Int) (R:List (List Int)) (w:Nat) (y:Int),(∀z∈l,0<=z/\z<(R.length:Int))->(y∈(l.foldl (B2 v) R).getD w []↔y∈R.getD w []\/(y=(v:Int)/\(w:Int)∈l)):=by
 intro l;induction l with
 | nil=>intro R w y _;simp
 | cons x l ih=>
  intro R w y hl;rw[List.foldl_cons,ih _ _ _ (fun z hz=>by rw[Pf];exact hl z (TN _ hz))];obtain⟨x0,x1⟩:=hl x (List.mem_cons_self ..);have e:(B2 v R x).getD w []=if x.toNat=w then R.getD w []++[(v:Int)] else R.getD w []:=by
   unfold B2;rw[Tu,Uk];by_cases hx:x.toNat=w
   .subst hx;rw[Tq rfl,Tq (by omega),Tq rfl];rfl
   .rw[Ts hx,Ts hx,<-Tu]
  rw[e,TZ];by_cases hx:x.toNat=w
  .have hwx:(w:Int)=x:=by omega
   rw[Tq hx,T0,Tj];constructor
   .rintro((h | h) | ⟨h1,h2⟩)
    .exact .inl h
    .exact .inr ⟨h,.inl hwx⟩
    .exact .inr ⟨h1,.inr h2⟩
   .rintro(h | ⟨h1,h2⟩)
    .exact .inl (.inl h)
    .exact .inl (.inr h1)
  .have hwx:(w:Int)≠x:=by omega
   rw[Ts hx];constructor
   .rintro(h | ⟨h1,h2⟩)
    .exact .inl h
    .exact .inr ⟨h1,.inr h2⟩
   .rintro(h | ⟨h1,h2⟩)
    .exact .inl h
    .rcases h2 with h2 | h2
     .exact absurd h2 hwx
     .exact .inr ⟨h1,h2⟩
theorem revI_mem{g:List (List Int)}(hr:∀v,v<g.length->∀w∈g.getD v [],0<=w/\w<(g.length:Int))(w:Nat)(y:Int):∀i,i<=g.length->(y∈(BP g i).getD w []↔∃x:Nat,x<i/\y=(x:Int)/\(w:Int)∈g.getD x []):=by
 intro i;induction i with
 | zero=>
  intro _;have:(BP g 0).getD w []=[]:=by unfold BP;rw[List.range_zero,List.foldl_nil,Tu,TW];split<;>rfl
  rw[this];constructor
  .intro h;cases h
  .rintro⟨x,h,_⟩;exact absurd h (Ul _)
 | succ i ih=>
  intro hi;rw[OK,R5 i _ _ _ _ (fun z hz=>by rw[I3];exact hr i (by omega) z hz),ih (by omega)];constructor
  .rintro(⟨x,h1,h2⟩ | ⟨h1,h2⟩)
   .exact⟨x,by omega,h2⟩
   .exact⟨i,by omega,h1,h2⟩
  .rintro⟨x,h1,h2,h3⟩
   by_cases hx:x=i
   .subst hx;exact .inr ⟨h2,h3⟩
   .exact .inl ⟨x,by omega,h2,h3⟩
theorem MT{g:List (List Int)}(hg:GOk g)(w:Nat)(y:Int):y∈(Al g).getD w []↔∃x:Nat,x<g.length/\y=(x:Int)/\(w:Int)∈g.getD x []:=revI_mem (fun v hv=>(hg.row v hv).2) w y g.length (TE _)
theorem OI{g:List (List Int)}(hrw:VG g)(h:Ce g=true):GOk g:=by obtain⟨h1,h2⟩:=L7 hrw h;exact⟨h1,fun v hv=>⟨by have:=(h2 v hv).1;omega,(h2 v hv).2⟩⟩
theorem revG_gok{g:List (List Int)}(hrw:VG g)(h:Ce g=true):GOk (Al g):=by
 obtain⟨h1,h2⟩:=L7 hrw h;have hl:(Al g).length=g.length:=I3 g _;refine⟨by omega,fun v hv=>⟨?_,fun w hw=>?_⟩⟩
 .have:=Qy (fun v hv=>(h2 v hv).1) v g.length (TE _);unfold Al;omega
 .obtain⟨x,hx,rfl,_⟩:=(MT (OI hrw h) v w).1 hw;omega
theorem rcv_rev{g:List (List Int)}(hg:GOk g){s:List Bool}{v u:Nat}(h:Rcv (Al g) s v u):Rcv g s u v:=by
 induction h with
 | refl h=>exact .refl h
 | @step u w _ hw ho ih=>
  obtain⟨x,hx,e,h2⟩:=(MT hg u _).1 hw;have:x=w:=by omega
  subst this;exact(Rcv.step (.refl ho) h2 ih.open1).trans ih
theorem mem_lt{g:List (List Int)}{x:Nat}{y:Int}(h:y∈g.getD x []):x<g.length:=by
 rcases Um x g.length with h1 | h1
 .exact h1
 .rw[Tu,TU h1] at h;cases h
theorem rcv_vre{g:List (List Int)}(hg:GOk g){s:List Bool}{u v:Nat}(h:Rcv g s u v):Rcv (Al g) s v u:=by
 induction h with
 | refl h=>exact .refl h
 | @step a w h1 hw ho ih=>exact(Rcv.step (.refl ho) ((MT hg w _).2 ⟨a,mem_lt hw,rfl,hw⟩) ih.open1).trans ih
def Mut2(g:List (List Int))(s:List Bool):Prop:=CE g s=0/\(∃v,s.getD v true=false)/\∀v w,s.getD v true=false->s.getD w true=false->Rcv g s v w
open Classical in
def muB(g:List (List Int))(s:List Bool):Bool:=decide (Mut2 g s)
theorem muB_t{g:List (List Int)}{s:List Bool}(h:Mut2 g s):muB g s=true:=by unfold muB;exact @Tz _ (Classical.propDecidable _) h
theorem Eu{g:List (List Int)}{s:List Bool}(h:¬Mut2 g s):muB g s=false:=by unfold muB;exact @Ty _ (Classical.propDecidable _) h
theorem JB{g:List (List Int)}{s:List Bool}:CE g s=if Ce g=true then (if s.length≠g.length then 19 else 0) else 20:=rfl
theorem Gy{s:List Bool}{v:Nat}(h:s.getD v true=false):v<s.length:=by
 rcases Um v s.length with h1 | h1
 .exact h1
 .rw[Tu,TU h1] at h;cases h
theorem rmu_c{g:List (List Int)}{s:List Bool}(hrw:VG g):CT Uu 148 [] [.lst (gL g),.lst (boL s)] [] (.tup [.bool (muB g s),.int .i64 (CE g s)]):=by
 refine rmu_ct g s ([],_) ?_;unfold Nb;rw[Ab hrw];have hlg:=Cq g;by_cases hc:CE g s=0
 case neg=>rw[Ag (Ui.2 hc),Eu (fun h=>hc h.1)];exact .ret _
 rw[Ad (by rw[hc];rfl),hc];have hc':=hc;rw[JB] at hc';have hv:Ce g=true:=by cases h:Ce g with | true=>rfl | false=>rw[h] at hc';cases hc'
 rw[Tq hv] at hc';have hl:s.length=g.length:=by
  by_cases h:s.length≠g.length
  .rw[Tq h] at hc';cases hc'
  .omega
 have hg:=OI hrw hv;have h24:=hg.len
 have key:∀(j k:Nat) (c:Int),k+j=g.length->0<=c/\c<=k->(0<c↔∃v,v<k/\s.getD v true=false)->(∀v w,v<k->s.getD v true=false->s.getD w true=false->Rcv g s v w)->
   Ac (Mi g s) (some (.inl (.l0 c (k:Int)))) (([],.tup [.bool (muB g s),.int .i64 0]):Ret):=by
  intro j;induction j with
  | zero=>
   intro k c hk hcb hco hall;have hkg:k=g.length:=by omega
   refine .to (show EM g s c k=some (.inr ([],.tup [.bool (decide (0<c)),.int .i64 0])) from ?_) ?_
   .unfold EM;rw[Ad (AD (by rw[hlg];simp only[iN];omega))]
   .have:muB g s=decide (0<c):=by
     by_cases h:0<c
     .rw[AC h];obtain⟨v,_,hv⟩:=hco.1 h;exact muB_t ⟨hc,⟨v,hv⟩,fun a b ha hb=>hall a b (by have:=Gy ha;omega) ha hb⟩
     .rw[AD h];refine Eu fun⟨_,⟨v,hv⟩,_⟩=>h (hco.2 ⟨v,by have:=Gy hv;omega,hv⟩)
    rw[this];exact .ret _
  | succ j ih=>
   intro k c hk hcb hco hall;have hkl:k<s.length:=by omega
   have hsk:=Az true hkl;have wk:=zW k (by omega);cases hso:s.getD k true with
   | true=>
    refine .to (show EM g s c k=some (.inl (.l0 c ((k+1:Nat):Int))) from ?_) (ih (k+1) c (by omega) ⟨hcb.1,by omega⟩ (hco.trans ⟨fun⟨v,h1,h2⟩=>⟨v,by omega,h2⟩,fun⟨v,h1,h2⟩=>⟨v,?_,h2⟩⟩) fun v w h1 h2 h3=>hall v w ?_ h2 h3)
    .unfold EM;rw[Ag (AC (by rw[hlg];simp only[iN];omega)),Ab (by omega),TC,Ar hsk,hso,Ag rfl,wk]
    .rcases Um v k with h | h
     .exact h
     .have:v=k:=by omega
      subst this;rw[hso] at h2;cases h2
    .rcases Um v k with h | h
     .exact h
     .have:v=k:=by omega
      subst this;rw[hso] at h2;cases h2
   | false=>
    have wc:i64.wrap (c+1)=c+1:=EZ (by omega) (by omega);have hrl:(rcL g s k).length=g.length:=by unfold rcL;simp
    refine .to (show EM g s c k=some (.inl (.l1 (c+1) (k:Int) (rcL g s k) 0)) from ?_) ?_
    .unfold EM;rw[Ag (AC (by rw[hlg];simp only[iN];omega)),Ab (by omega),TC,Ar hsk,hso,Ad rfl,Ab hg,Ab hl,Ab ⟨by omega,by simp only[iN];omega⟩,wc]
    have inner:∀(i q:Nat),q+i=g.length->(∀w,w<q->s.getD w true=false->Rcv g s k w)->Ac (Mi g s) (some (.inl (.l1 (c+1) (k:Int) (rcL g s k) (q:Int)))) (([],.tup [.bool (muB g s),.int .i64 0]):Ret):=by
     intro i;induction i with
     | zero=>
      intro q hq hok;refine .to (show De g s (c+1) k (rcL g s k) q=some (.inl (.l0 (c+1) ((k+1:Nat):Int))) from ?_) (ih (k+1) (c+1) (by omega) ⟨by omega,by omega⟩ ⟨fun _=>⟨k,by omega,hso⟩,fun _=>by omega⟩ fun v w h1 h2 h3=>?_)
      .unfold De;rw[Ad (AD (by rw[hlg];simp only[iN];omega)),wk]
      .rcases Um v k with h | h
       .exact hall v w h h2 h3
       .have:v=k:=by omega
        subst this;exact hok w (by have:=Gy h3;omega) h3
     | succ i ihi=>
      intro q hq hok;have hql:q<s.length:=by omega
      have hsq:=Az true hql;have wq:=zW q (by omega);have hrq:(rcL g s k)[q]?=some (mkB g s k q):=by unfold rcL;rw[TD,TT (by omega),TC];rfl
      cases hsqo:s.getD q true with
      | true=>
       refine .to (show De g s (c+1) k (rcL g s k) q=some (.inl (.l1 (c+1) (k:Int) (rcL g s k) ((q+1:Nat):Int))) from ?_) (ihi (q+1) (by omega) fun w hw ho=>hok w ?_ ho)
       .unfold De;rw[Ag (AC (by rw[hlg];simp only[iN];omega)),Ab (by omega),TC,Ar hsq,hsqo,Ad (by rfl),wq]
       .rcases Um w q with h | h
        .exact h
        .have:w=q:=by omega
         subst this;rw[hsqo] at ho;cases ho
      | false=>
       cases hm:mkB g s k q with
       | true=>
        refine .to (show De g s (c+1) k (rcL g s k) q=some (.inl (.l1 (c+1) (k:Int) (rcL g s k) ((q+1:Nat):Int))) from ?_) (ihi (q+1) (by omega) fun w hw ho=>?_)
        .unfold De;rw[Ag (AC (by rw[hlg];simp only[iN];omega)),Ab (by omega),TC,Ar hsq,hsqo,Ag (by rfl),Ar hrq,hm,Ad (by rfl),wq]
        .rcases Um w q with h | h
         .exact hok w h ho
         .have:w=q:=by omega
          subst this;exact Ez.1 hm
       | false=>
        refine .to (show De g s (c+1) k (rcL g s k) q=some (.inr ([],.tup [.bool false,.int .i64 0])) from ?_) ?_
        .unfold De;rw[Ag (AC (by rw[hlg];simp only[iN];omega)),Ab (by omega),TC,Ar hsq,hsqo,Ag (by rfl),Ar hrq,hm,Ag (by rfl)]
        .rw[Eu fun h=>by
          have:=Ez.2 (h.2.2 k q hso hsqo);rw[hm] at this;cases this]
         exact .ret _
    exact inner g.length 0 (by omega) fun w hw=>absurd hw (Ul _)
 exact key g.length 0 0 (by omega) ⟨by omega,by omega⟩ ⟨fun h=>absurd h (by omega),fun⟨v,h,_⟩=>absurd h (Ul _)⟩ fun v w h=>absurd h (Ul _)
section
variable {n:Nat} {ok:Nat->Bool} {L:Nat->Nat->Bool}
structure GC(n:Nat)(ok:Nat->Bool)(L:Nat->Nat->Bool)(mk mk':List Bool):Prop where
 len:mk'.length=mk.length
 mono:∀x,mk.getD x false=true->mk'.getD x false=true
 sound:∀P:Nat->Prop,(∀b c,b<n->c<n->P c->ok b=true->L b c=true->P b)->(∀x,mk.getD x false=true->P x)->∀x,mk'.getD x false=true->P x
theorem GC.refl(mk:List Bool):GC n ok L mk mk:=⟨rfl,fun _ h=>h,fun _ _ h=>h⟩
theorem GC.trans{a b c:List Bool}(h:GC n ok L a b)(k:GC n ok L b c):GC n ok L a c:=⟨k.len.trans h.len,fun x hx=>k.mono x (h.mono x hx),fun P hP ha=>k.sound P hP (h.sound P hP ha)⟩
end
structure Ak where
 cl:List Bool
 bw:List Int
 pe:List Int
def sgA(s:Ak):AV:=.agg [.lst (boL s.cl),lI s.bw,lI s.pe]
inductive FA where | l0 (v0:Int)
def idxSt(l:List Int)(q:Int):FA->St | .l0 v0=>St.mk 19 [(0,Ut (Un iv l)),(1,iv q),(7,iv (iN (Un iv l).length)),(8,iv v0)] []
def idxEn(l:List Int)(q:Int):Option (FA⊕Ret):=some (.inl (.l0 ((0:Int))))
def Ex(l:List Int)(q v0:Int):Option (FA⊕Ret):=br (decide (v0<iN (Un iV l).length)) (gu (0<=v0) <|el l (v0.toNat) fun(x14:Int)=>br (q==x14) (some (.inr ([],iV v0))) (some (.inl (.l0 (i64.wrap (v0+1)))))) (some (.inr ([],iV (-1))))
def idxStep(l:List Int)(q:Int):FA->Option (FA⊕Ret) | .l0 v0=>Ex l q v0
theorem idx_ct(l:List Int)(q:Int)(r:Ret)(h:Ac (idxStep l q) (idxEn l q) r):CT Uu 138 ([]) ([lI l,.int .i64 q]) r.1 r.2:=
 CT.mach (fn:=Tryz.f138) (c:=zB Tryz.f138) (S:=(idxSt l q)) (hd:=FA.ctorIdx) Tryz.func138 (by kernel_rfl) (nL rfl)
  (fun s o ho=>match s,ho with
 | .l0 v0,ho=>Scr.ok (X:=Ex l q v0) ho mix (
 .rn 0 [] [] [] [] (al (al t3)) <|
 .br (fun a0=>
 .rn 0 [19] [] [] [] (aj a0 (al (u2 s2))) <|
 .gu fun a1=>
 .el fun x14 a2=>
 .rn 0 [] [(14,iv x14)] [] [] (al (u2 (u2 (u2 (aj (k2 (aj a1 (Af (f:=iv) a2))) (u2 (al t3))))))) <|
 .br (fun a3=>
  .rt [33] [] [] [] [] [] (aj (aj a3 (al (u2 s2))) t2))
 (fun a3=>
  .lp [32] [] [] [] [] [] [0,1,7,8] (aj (aj a3 (al (u2 s2))) t5)))
 (fun a0=>
 .rt [18] [] [] [] [] [] (aj (aj a0 s2) t2))) (by kernel_rfl)
  )
  (fun o ho=>Scr.ok (X:=idxEn l q) ho mix (
 .lp [] [] [] [] [] [] [0,1,7,8] (aj (u2 (al (u2 (u2 t2)))) t5)) (by kernel_rfl)) h
inductive FQ where | l0 (v0:Int) (v1:List Bool)
def NY(q:Ak):FQ->St | .l0 v0 v1=>St.mk 23 [(1,AV.ptr 0 0 0),(3,AV.sl 1 0 (boL q.cl).length),(4,iv v0)] [some (bK [AV.agg [Ut (boL q.cl),Ut (Un iv q.bw),Ut (Un iv q.pe)]] 3),some (bK (Un bV v1) 1)]
def N0(q:Ak):Option (FQ⊕Ret):=gu (∀(e:AV),e∈boL q.cl->e.cells.length=1) <|gu ((boL q.cl).length<=9223372036854775807) <|gu ((boL q.cl).length * 1<=140737488355328) <|some (.inl (.l0 ((0:Int)) (q.cl)))
def GS(q:Ak)(v0:Int)(v1:List Bool):Option (FQ⊕Ret):=br (decide (v0<iN (Un iV q.pe).length)) (gu (0<=v0) <|el (q.pe) (v0.toNat) fun(x19:Int)=>gu (0<=x19) <|gu (x19<iN (boL q.cl).length) <|gu ((0+x19.toNat).succ.le (Un bV v1).length) <|some (.inl (.l0 (i64.wrap (v0+1)) (v1.set (0+x19.toNat) true)))) (gu ((boL q.cl).length=(Un bV v1).length) <|some (.inr ([],Ut (Un bV v1))))
def celStep(q:Ak):FQ->Option (FQ⊕Ret) | .l0 v0 v1=>GS q v0 v1
theorem cel_ct(q:Ak)(r:Ret)(h:Ac (celStep q) (N0 q) r):CT Uu 108 ([]) ([sgA q]) r.1 r.2:=
 CT.mach (fn:=Tryz.f108) (c:=zB Tryz.f108) (S:=(NY q)) (hd:=FQ.ctorIdx) Tryz.func108 (by kernel_rfl) (nL rfl)
  (fun s o ho=>match s,ho with
 | .l0 v0 v1,ho=>Scr.ok (X:=GS q v0 v1) ho mix (
 .rn 0 [] [] [] [] (al (u2 (u2 (u2 (u2 (al t3)))))) <|
 .br (fun a0=>
 .gu fun a1=>
 .el fun x19 a2=>
 .gu fun a3=>
 .gu fun a4=>
 .gu fun a5=>
 .lq [25] [(19,iv x19)] [] [] [] [0,1] [1,3,4] (up [] [(1,(Un bV v1).set (0+x19.toNat) (bV true))] (NY q (.l0 (i64.wrap (v0+1)) (v1.set (0+x19.toNat) true)))) (aj (aj a0 (aj (u2 (u2 (u2 (u2 (aj (k2 (aj a1 (Af (f:=iv) a2))) (u2 (aj (k2 (aj a3 a4)) (al (ak a5))))))))) (al (u2 (u2 s2))))) t6) (by simp[up,upF,upV,upH,upB,NY,gL,boL,lI]))
 (fun a0=>
 .rn 0 [24] [] [] [] (aj a0 (al (u2 s2))) <|
 .gu fun a1=>
 .rt [] [] [] [] [] [1] (ak (al a1)))) (by kernel_rfl)
  )
  (fun o ho=>Scr.ok (X:=N0 q) ho mix (
 .rn 0 [] [] [] [] (al (u2 t2)) <|
 .gu fun a0=>
 .gu fun a1=>
 .gu fun a2=>
 .lp [] [] [] [] [] [0,1] [1,3,4] (aj (aj (u2 (u2 (aj (ak (aj a0 (aj a1 a2))) s2))) s2) t6)) (by kernel_rfl)) h
def wkA:AV->AV | .agg cs=>.agg (cs.map wk1) | a=>wk1 a
def wk2:AV->AV | .agg cs=>.agg (cs.map wk1) | .tup cs=>.tup (cs.map wkA) | a=>wk1 a
theorem VR.wkA{φ:Phi}{A:Nat->Prop}{w:World}{a:AV}{v:Value}(h:VR φ A w a v):VR φ A w (wkA a) v:=by
 unfold Proofs.YthjgbnbibebigaaGreat.wkA;split
 .cases h with
  | imm _ _ h=>
   cases h with
   | agg _ vs hl h=>
    refine .agg _ vs (by simpa using hl) fun i c v hc hv=>?_
    rw[TD] at hc;obtain⟨c',hc',rfl⟩:=Option.map_eq_some_iff.1 hc;exact(VR.imm _ _ (h i c' v hc' hv)).wk1
  | agg _ vs hl h=>
   refine .agg _ vs (by simpa using hl) fun i c v hc hv=>?_
   rw[TD] at hc;obtain⟨c',hc',rfl⟩:=Option.map_eq_some_iff.1 hc;exact(h i c' v hc' hv).wk1
 .exact h.wk1
theorem VR.wk2{φ:Phi}{A:Nat->Prop}{w:World}{a:AV}{v:Value}(h:VR φ A w a v):VR φ A w (wk2 a) v:=by
 unfold Proofs.YthjgbnbibebigaaGreat.wk2;split
 .exact VR.wkA h
 .cases h with
  | imm _ _ h=>cases h
  | tup _ vs hl h=>
   refine .tup _ vs (by simpa using hl) fun i c v hc hv=>?_
   rw[TD] at hc;obtain⟨c',hc',rfl⟩:=Option.map_eq_some_iff.1 hc;exact VR.wkA (h i c' v hc' hv)
 .exact h.wk1
theorem CT.w2{f:FuncId}{hin hout:List (Option Blk)}{args:List AV}{res:AV}(h:CT Uu f hin args hout res):CT Uu f hin args hout (wk2 res):=h.less fun _ _ _ _ h=>VR.wk2 h
def ID(l:List Int)(x:Int):Int:=match fnd (fun i=>l.getD i 0==x) 0 l.length with | some i=>(i:Int) | none=> -1
theorem idxZ_has(l:List Int)(x:Int):decide (0<=ID l x)=AU l x:=by
 unfold ID AU;cases fnd (fun i=>l.getD i 0==x) 0 l.length with
 | none=>rfl
 | some i=>simp
theorem idx_c(l:List Int)(x:Int)(hl:l.length<=9223372036854775807):CT Uu 138 [] [lI l,.int .i64 x] [] (.int .i64 (ID l x)):=by
 refine idx_ct l x ([],_) ?_;refine(loop_fnd (fun i=>FA.l0 (i:Int)) l.length (fun i=>l.getD i 0==x) (rF:=fun i=>([],.int .i64 (i:Int))) (r:=([],.int .i64 (-1))) (fun i hi hp=>?_) (fun i r hi hp hr=>?_) (fun _=>?_)).res (by unfold ID;split<;>simp_all)
 .refine .to (show Ex l x i=_ from ?_) (.ret _);unfold Ex;rw[C0 0 hi,Ag (by rw[<-hp];exact BEq.comm)]
 .refine .to (show Ex l x i=_ from ?_) hr;unfold Ex;rw[C0 0 hi,Ad (by rw[<-hp];exact BEq.comm),zW i (by omega)]
 .refine .to (show Ex l x l.length=_ from ?_) (.ret _);unfold Ex;rw[AQ]
def AB(s:Ak):List Bool:=s.pe.foldl (fun c b=>c.set b.toNat true) s.cl
theorem Kb:∀(l:List Int) (c:List Bool),(l.foldl (fun c b=>c.set b.toNat true) c).length=c.length:=by
 intro l;induction l with
 | nil=>intro c;rfl
 | cons x l ih=>intro c;rw[List.foldl_cons,ih,T4]
theorem DT(s:Ak):(AB s).length=s.cl.length:=Kb _ _
theorem J7(l:List Bool):∀(e:AV),e∈boL l->e.cells.length=1:=fun e he=>by unfold boL at he;obtain⟨b,_,rfl⟩:=T1.1 he;rfl
theorem Gf(l:List Int):∀(e:AV),e∈Un (AV.int .i64) l->e.cells.length=1:=fun e he=>by obtain⟨b,_,rfl⟩:=T1.1 he;rfl
theorem NV(s:Ak)(hl:s.cl.length<=1000000)(hp:s.pe.length<=1000000)(hb:∀b∈s.pe,0<=b/\b<(s.cl.length:Int)):CT Uu 108 [] [sgA s] [] (.lst (boL (AB s))):=by
 refine cel_ct s ([],_) ?_;have hL:=A9 s.cl;unfold N0;rw[Ab (J7 _),Ab (by omega),Ab (by omega)];refine NI (L:=fun i b=>FQ.l0 (i:Int) b) (f:=fun c b=>c.set b.toNat true) (l:=s.pe) s.cl (fun i x hx h=>?_) ?_
 .have hlen:=Kb (s.pe.take i) s.cl;have h2:=hb x (Tx hx);have hi:=(Tv.1 hx).1;generalize (s.pe.take i).foldl (fun c b=>c.set b.toNat true) s.cl=c at *;refine .to (show GS s i c=_ from ?_) h;unfold GS;rw[AZ hx,Ab h2.1,Ab (by simp only[iN];omega),Ab (show Nat.le _ _ from(by simp only[Tw];show 0+x.toNat+1<=_;omega)),zW i (by omega),TI]
 .refine .to (show GS s s.pe.length (AB s)=_ from ?_) (.ret _);unfold GS;rw[AQ,Ab (by rw[hL,Tw,DT])];rfl
def bdW(s:Ak)(i:Nat):Bool:=decide (s.bw.getD i 0 < -1)||(decide (8<=s.bw.getD i 0)||(decide (0<=s.bw.getD i 0)&&!(s.cl.getD i true)))
def bdP(nb:Nat)(s:Ak)(i:Nat):Bool:=decide (s.pe.getD i 0<0)||(decide ((nb:Int)<=s.pe.getD i 0)||(s.cl.getD (s.pe.getD i 0).toNat true||AU (s.pe.take i) (s.pe.getD i 0)))
def FO(n:Aa)(s:Ak):Bool:=decide (s.cl.length=Ao n)&&(decide (s.bw.length=Ao n)&&((fnd (bdW s) 0 s.bw.length).isNone&&(fnd (bdP n.bs.length s) 0 s.pe.length).isNone))
def BB(n:Aa)(s:Ak):Bool:=Bc n&&FO n s
structure BA(n:Aa)(s:Ak):Prop where
 lc:s.cl.length=Ao n
 lb:s.bw.length=Ao n
 bw:∀i,i<s.bw.length->-1<=s.bw.getD i 0/\s.bw.getD i 0<8/\(0<=s.bw.getD i 0->s.cl.getD i true=true)
 pb:∀b∈s.pe,0<=b/\b<(n.bs.length:Int)/\s.cl.getD b.toNat true=false
 nd:s.pe.Nodup
theorem SM{l:List Int}{i j:Nat}(h:j<i)(hj:j<l.length):l.getD j 0∈l.take i:=by
 have hl:j<(l.take i).length:=by rw[TY];omega
 have:(l.take i)[j]=l.getD j 0:=by rw[List.getElem_take,Tu,Tt hj];rfl
 rw[<-this];exact T2 _
theorem nd_of{l:List Int}(h:∀i,i<l.length->AU (l.take i) (l.getD i 0)=false):l.Nodup:=by
 refine List.pairwise_iff_getElem.2 fun i j hi hj hij e=>?_
 refine KS (h j hj) ?_;have h2:l.getD j 0=l.getD i 0:=by rw[Tu,Tt hj,Tu,Tt hi];exact e.symm
 rw[h2];exact SM hij hi
theorem nd_has{l:List Int}(hn:l.Nodup){i:Nat}(hi:i<l.length):AU (l.take i) (l.getD i 0)=false:=by
 cases h:AU (l.take i) (l.getD i 0) with
 | false=>rfl
 | true=>obtain⟨j,hj,e⟩:=T7.1 (Ff.1 h);rw[TY] at hj;rw[List.getElem_take] at e;have:=nd_inj hn (i:=j) (j:=i) (by omega) hi (by rw[Tu,Tt (show j<l.length by omega)];exact e);omega
theorem getD_mem{l:List Int}{i:Nat}(h:i<l.length):l.getD i 0∈l:=by rw[Tu,Tt h];exact T2 _
theorem sigF_iff{n:Aa}{s:Ak}:FO n s=true↔BA n s:=by
 unfold FO;simp only[TB,decide_eq_true_eq,Option.isNone_iff_eq_none];constructor
 .rintro⟨h1,h2,h3,h4⟩
  have hp:∀i,i<s.pe.length->bdP n.bs.length s i=false:=fun i hi=>IX h4 i (TF _) (by omega)
  unfold bdP at hp;simp only[Bool.or_eq_false_iff,decide_eq_false_iff_not] at hp;refine⟨h1,h2,fun i hi=>?_,fun b hb=>?_,nd_of fun i hi=>(hp i hi).2.2.2⟩
  .have:=IX h3 i (TF _) (by omega);unfold bdW at this;simp only[Bool.or_eq_false_iff,decide_eq_false_iff_not,Bool.and_eq_false_iff] at this;refine⟨by omega,by omega,fun h0=>?_⟩;rcases this.2.2 with h | h
   .omega
   .simpa using h
  .obtain⟨i,hi,rfl⟩:=T7.1 hb;have:=hp i hi;rw[Tu,Tt hi] at this;simp only[Option.getD_some] at this;exact⟨by omega,by omega,this.2.2.1⟩
 .intro h;refine⟨h.lc,h.lb,Ld fun i _ hi=>?_,Ld fun i _ hi=>?_⟩
  .obtain⟨h1,h2,h3⟩:=h.bw i (by omega);unfold bdW;rw[AD (show ¬s.bw.getD i 0 < -1 by omega),AD (show ¬8<=s.bw.getD i 0 by omega)];by_cases h0:0<=s.bw.getD i 0
   .rw[h3 h0];simp
   .rw[AD h0];rfl
  .obtain⟨h1,h2,h3⟩:=h.pb _ (getD_mem (show i<s.pe.length by omega));unfold bdP;rw[AD (show ¬s.pe.getD i 0<0 by omega),AD (show ¬(n.bs.length:Int)<=s.pe.getD i 0 by omega),h3,nd_has h.nd (by omega)];rfl
theorem PO{n:Aa}{s:Ak}:BB n s=true↔Aq n/\BA n s:=by unfold BB;rw[TB,BH,sigF_iff]
theorem Qt{n:Nat}{x:Int}(h0:0<=x)(h1:x<(n:Int)):x∈(List.range n).map (fun i:Nat=>(i:Int)):=T1.2 ⟨x.toNat,List.mem_range.2 (by omega),by omega⟩
theorem BA.pl{n:Aa}{s:Ak}(h:BA n s):s.pe.length<=n.bs.length:=by
 have:=Q6 h.nd (d:=(List.range n.bs.length).map fun i:Nat=>(i:Int)) fun x hx=>Qt (h.pb x hx).1 (h.pb x hx).2.1
 rwa [Tw,Ue] at this
theorem PB:∀{l:List Int} {c:List Bool},(∀b∈l,0<=b/\b<(c.length:Int))->∀(x:Nat),(l.foldl (fun c b=>c.set b.toNat true) c).getD x true=(c.getD x true||AU l (x:Int)):=by
 intro l;induction l with
 | nil=>intro c _ x;simp[AU,fnd]
 | cons y l ih=>
  intro c h x;have hy:=h y (by simp);rw[List.foldl_cons,ih (fun b hb=>by rw[T4];exact h b (TN _ hb)) x];have e:(c.set y.toNat true).getD x true=(c.getD x true||decide (y=(x:Int))):=by
   rw[Tu,Uk,Tu];by_cases hx:y=(x:Int)
   .rw[Tq (by omega),Tq (by omega),AC hx];simp
   .rw[Ts (by omega),AD hx,Bool.or_false]
  have e2:AU (y::l) (x:Int)=(decide (y=(x:Int))||AU l (x:Int)):=by rw[Bool.eq_iff_iff,Bool.or_eq_true,Ff,Ff,TZ,decide_eq_true_eq];exact or_congr eq_comm Iff.rfl
  rw[e,e2,Bool.or_assoc]
theorem Pt{n:Aa}{s:Ak}(hv:Aq n)(h:BA n s)(x:Nat):(AB s).getD x true=(s.cl.getD x true||AU s.pe (x:Int)):=PB (fun b hb=>by have:=h.pb b hb;have:=h.lc;have:=hv.cel;omega) x
def Ou(l:List Int)(q:Int):Option (Empty⊕Ret):=gu (l.length<=9223372036854775807) <|some (.inr ([],bV (decide (0<=ID l q))))
theorem con_ct(l:List Int)(q:Int)(r:Ret)(h:Ac emT (Ou l q) r):CT Uu 92 ([]) ([lI l,.int .i64 q]) r.1 r.2:=
 CT.mach (fn:=Tryz.f92) (c:=zB Tryz.f92) (S:=emS) (hd:=emH) Tryz.func92 (by kernel_rfl) (nL rfl)
  (fun s o ho=>match s,ho with
   | x,_=>x.elim)
  (fun o ho=>Scr.ok (X:=Ou l q) ho mix (
 .rn 0 [] [] [] [] s2 <|
 .gu fun a0=>
 have c0:=idx_c l q a0;
 .rt [] [] [(7,hK c0 [] [])] [] [] [] (aj (al (u2 (u2 (aj (ak (k3 (al (c0)))) (u2 s2))))) t2)) (by kernel_rfl)) h
inductive D8 where | l0 (v0:Int) | l1 (v0:Int)
def foSt(n:Aa)(q:Ak):D8->St | .l0 v0=>St.mk 96 [(2,AV.ptr 0 0 0),(3,AV.ptr 1 0 0),(5,iv v0)] [some (bK [Aj n] 8),some (bK [AV.agg [Ut (boL q.cl),Ut (Un iv q.bw),Ut (Un iv q.pe)]] 3)] | .l1 v0=>St.mk 96 [(2,AV.ptr 0 0 0),(3,AV.ptr 1 0 0),(6,iv v0)] [some (bK [Aj n] 8),some (bK [AV.agg [Ut (boL q.cl),Ut (Un iv q.bw),Ut (Un iv q.pe)]] 3)]
def foEn(n:Aa)(q:Ak):Option (D8⊕Ret):=gu (Aq n) <|br (iN (boL q.cl).length != iN (Ao n)) (some (.inr ([],bV false))) (br (iN (Un iV q.bw).length != iN (boL q.cl).length) (some (.inr ([],bV false))) (some (.inl (.l0 ((0:Int))))))
def Ep(n:Aa)(q:Ak)(v0:Int):Option (D8⊕Ret):=br (decide (v0<iN (Un iV q.bw).length)) (gu (0<=v0) <|el (q.bw) (v0.toNat) fun(x33:Int)=>br (decide (x33 < -1)) (some (.inr ([],bV false))) (el (q.bw) (v0.toNat) fun(x40:Int)=>br (decide (8<=x40)) (some (.inr ([],bV false))) (el (q.bw) (v0.toNat) fun(x48:Int)=>br (x48 != -1) (el (q.cl) (v0.toNat) fun(x55:Bool)=>br (!x55) (some (.inr ([],bV false))) (some (.inl (.l0 (i64.wrap (v0+1)))))) (some (.inl (.l0 (i64.wrap (v0+1)))))))) (some (.inl (.l1 ((0:Int)))))
def EK(n:Aa)(q:Ak)(v0:Int):Option (D8⊕Ret):=br (decide (v0<iN (Un iV q.pe).length)) (gu (0<=v0) <|el (q.pe) (v0.toNat) fun(x70:Int)=>br (decide (x70<0)) (some (.inr ([],bV false))) (br (decide (iN (Un bA n.bs).length<=x70)) (some (.inr ([],bV false))) (gu (0<=x70) <|el (q.cl) (x70.toNat) fun(x85:Bool)=>br x85 (some (.inr ([],bV false))) (gu (∀(e:AV),e∈Un iV q.pe->e.cells.length=1) <|gu (v0<=iN (Un iV q.pe).length) <|gu ((Uq (v0.toNat-Us 0) (Up (Us 0) q.pe)).length<=9223372036854775807) <|br (AU (Uq (v0.toNat-Us 0) (Up (Us 0) q.pe)) x70) (some (.inr ([],bV false))) (some (.inl (.l1 (i64.wrap (v0+1))))))))) (some (.inr ([],bV true)))
def foStep(n:Aa)(q:Ak):D8->Option (D8⊕Ret) | .l0 v0=>Ep n q v0 | .l1 v0=>EK n q v0
theorem fo_ct(n:Aa)(q:Ak)(r:Ret)(h:Ac (foStep n q) (foEn n q) r):CT Uu 149 ([]) ([Aj n,sgA q]) r.1 r.2:=
 CT.mach (fn:=Tryz.f149) (c:=zB Tryz.f149) (S:=(foSt n q)) (hd:=D8.ctorIdx) Tryz.func149 (by kernel_rfl) (nL rfl)
  (fun s o ho=>match s,ho with
 | .l0 v0,ho=>Scr.ok (X:=Ep n q v0) ho mix (
 .rn 0 [] [] [] [] (al (u2 (u2 (u2 (u2 (al t3)))))) <|
 .br (fun a0=>
 .gu fun a1=>
 .el fun x33 a2=>
 .br (fun a3=>
  .rt [55,73] [(33,iv x33)] [] [] [] [] (aj (aj a0 (aj (u2 (u2 (u2 (aj (k2 (aj a1 (Af (f:=iv) a2))) (u2 (u2 (u2 (aj a3 (aj a3 (aj a3 (aj a3 (aj a3 (aj a3 (ag a3 (u2 (ak (k3 (k5 (k5 (al t3)))))))))))))))))))) (ak s2))) t2))
 (fun a3=>
  .el fun x40 a4=>
  .br (fun a5=>
  .rt [55,72,89] [(33,iv x33),(40,iv x40)] [] [] [] [] (aj (aj a0 (aj (u2 (u2 (u2 (aj (k2 (aj a1 (Af (f:=iv) a2))) (u2 (u2 (u2 (ag a3 (ag a3 (ag a3 (aj (aj a3 (k2 (aj a1 (Af (f:=iv) a4)))) (ag a3 (ag a3 (ag a3 (u2 (aj a5 (aj a5 (aj a5 (aj a5 (aj a5 (aj a5 (aj a5 (ak (k5 (aj a5 (al (aj a5 t2))))))))))))))))))))))))))) (ak s2))) t2))
  (fun a5=>
  .el fun x48 a6=>
  .br (fun a7=>
   .el fun x55 a8=>
   .rn 0 [55,72,88,103] [(33,iv x33),(40,iv x40),(48,iv x48),(55,bV x55)] [] [] (aj a0 (al (u2 (u2 (u2 (aj (k2 (aj a1 (Af (f:=iv) a2))) (u2 (u2 (u2 (ag a3 (ag a3 (ag a3 (aj (aj a3 (k2 (aj a1 (Af (f:=iv) a4)))) (ag a3 (ag a3 (ag a3 (u2 (ag a5 (ag a5 (ag a5 (aj (aj a5 (k2 (aj a1 (Af (f:=iv) a6)))) (ag a5 (ag a5 (ag a5 (ag a7 (ag a7 (ag a7 (aj (aj a7 (k2 (aj a1 (Af (f:=bV) a8)))) (ag a7 (ag a7 (aj (aj a5 (aj a7 t2)) (al (aj a5 t2))))))))))))))))))))))))))))))))) <|
   .br (fun a9=>
   .rt [72,88,103,119] [] [] [] [] [] (aj (aj a9 s2) t2))
   (fun a9=>
   .lp [72,88,103,118] [] [] [] [] [0,1] [2,3,5] (aj (aj a9 (al (u2 (u2 s2)))) t6)))
  (fun a7=>
   .lp [55,72,88,102] [(33,iv x33),(40,iv x40),(48,iv x48)] [] [] [] [0,1] [2,3,5] (aj (aj a0 (aj (u2 (u2 (u2 (aj (k2 (aj a1 (Af (f:=iv) a2))) (u2 (u2 (u2 (ag a3 (ag a3 (ag a3 (aj (aj a3 (k2 (aj a1 (Af (f:=iv) a4)))) (ag a3 (ag a3 (ag a3 (u2 (ag a5 (ag a5 (ag a5 (aj (aj a5 (k2 (aj a1 (Af (f:=iv) a6)))) (ag a5 (ag a5 (ag a5 (aj a7 (aj a7 (aj a7 (aj a7 (aj a7 (aj a7 (aj (aj a5 (aj a7 t2)) (al (aj a5 t2))))))))))))))))))))))))))))))) (ak (al (u2 (u2 s2)))))) t6)))))
 (fun a0=>
 .lp [54] [] [] [] [] [0,1] [2,3,6] (aj (aj a0 s2) t6))) (by kernel_rfl)
 | .l1 v0,ho=>Scr.ok (X:=EK n q v0) ho mix (
 .rn 0 [] [] [] [] (al (u2 (u2 (u2 (u2 (al t3)))))) <|
 .br (fun a0=>
 .gu fun a1=>
 .el fun x70 a2=>
 .rn 0 [129] [(70,iv x70)] [] [] (aj a0 (al (u2 (u2 (u2 (aj (k2 (aj a1 (Af (f:=iv) a2))) (u2 s2))))))) <|
 .br (fun a3=>
  .rt [149] [] [] [] [] [] (aj (aj (u2 (u2 (u2 (aj a3 (aj a3 (aj a3 (aj a3 (aj a3 (ag a3 (u2 (k5 (aj t3 (u2 (ak (k5 (al t3)))))))))))))))) (ak s2)) t2))
 (fun a3=>
  .br (fun a4=>
  .rt [148,163] [] [] [] [] [] (aj (aj (u2 (u2 (u2 (ag a3 (ag a3 (ag a3 (ag a3 (aj (aj a3 t3) (ag a3 (u2 (aj a4 (aj a4 (aj a4 (aj a4 (aj a4 (ag a4 (u2 (ak (k5 (al t3)))))))))))))))))))) (ak s2)) t2))
  (fun a4=>
  .gu fun a5=>
  .el fun x85 a6=>
  .br (fun a7=>
   .rt [148,162,177] [(85,bV x85)] [] [] [] [] (aj (aj (u2 (u2 (u2 (ag a3 (ag a3 (ag a3 (ag a3 (aj (aj a3 t3) (ag a3 (u2 (ag a4 (ag a4 (ag a4 (aj (aj a4 (k2 (aj a5 (Af (f:=bV) a6)))) (ag a4 (ag a4 (u2 (aj a7 (aj a7 (aj a7 (aj a7 (aj a7 (aj a7 (al (aj a7 t2))))))))))))))))))))))))) (ak s2)) t2))
  (fun a7=>
   .gu fun a8=>
   .gu fun a9=>
   .gu fun a10=>
   have c0:=Ew (Uq (v0.toNat-Us 0) (Up (Us 0) q.pe)) x70 a10;
   .rn 0 [148,162,176] [(85,bV x85)] [(94,hK c0 [] [])] [] (al (u2 (u2 (u2 (ag a3 (ag a3 (ag a3 (ag a3 (aj (aj a3 t3) (ag a3 (u2 (ag a4 (ag a4 (ag a4 (aj (aj a4 (k2 (aj a5 (Af (f:=bV) a6)))) (ag a4 (ag a4 (u2 (ag a7 (ag a7 (ag a7 (aj (aj a7 (k2 (aj a8 (aj (Int.le_refl 0) (aj a1 (aj a9 (show iN (Un iv q.pe).length<=iN (Un iv q.pe).length by omega))))))) (ag a7 (aj (aj a7 (ak (k3 (al (show CT Uu 16 [] [Ut (Uq (v0.toNat-Us 0) (Up (Us 0) (Un iv q.pe))),iv x70] [] (bV (AU (Uq (v0.toNat-Us 0) (Up (Us 0) q.pe)) x70)) from CT.eqs (c0) (by first | (simp only[boL,TG,Uj,List.map_take,List.map_drop,List.map_replicate,List.nil_append]<;>rfl) | (simp[gL,boL,lI,sA,bA]<;>rfl)) (by first | (simp only[boL,TG,Uj,List.map_take,List.map_drop,List.map_replicate,List.nil_append]<;>rfl) | (simp[gL,boL,lI,sA,bA]<;>rfl))))))) (al (aj a7 t2)))))))))))))))))))))))))) <|
   .br (fun a11=>
   .rt [148,162,176,191] [] [] [] [] [] (aj (aj a11 s2) t2))
   (fun a11=>
   .lp [148,162,176,190] [] [] [] [] [0,1] [2,3,6] (aj (aj a11 (al (u2 (u2 s2)))) t6))))))
 (fun a0=>
 .rt [128] [] [] [] [] [] (aj (aj a0 s2) t2))) (by kernel_rfl)
  )
  (fun o ho=>Scr.ok (X:=foEn n q) ho mix (
 .rn 0 [] [] [] [] (al (u2 (u2 t2))) <|
 .gu fun a0=>
 .br (fun a1=>
 have c0:=FH a0;
 .rt [29] [] [(12,hK c0 [] [])] [] [] [] (aj (aj (u2 (u2 (u2 (u2 (aj (ak (aj t9 (al (c0)))) (aj t3 (u2 (aj a1 (aj a1 (aj a1 (aj a1 (aj a1 (aj a1 (aj a1 (al (aj a1 t2)))))))))))))))) (ak s2)) t2))
 (fun a1=>
 have c0:=FH a0;
 .rn 0 [28] [] [(12,hK c0 [] [])] [] (al (u2 (u2 (u2 (u2 (aj (ak (aj t9 (al (c0)))) (aj t3 (u2 (ag a1 (ag a1 (ag a1 (ag a1 (ag a1 (ag a1 (aj (aj a1 t3) (al (aj a1 t2))))))))))))))))) <|
 .br (fun a2=>
  .rt [28,45] [] [] [] [] [] (aj (aj a2 s2) t2))
 (fun a2=>
  .lp [28,44] [] [] [] [] [0,1] [2,3,5] (aj (aj a2 s2) t6)))) (by kernel_rfl)) h
inductive FF where | l0 (v0:Int) (v1:List Int)
def I2(n:Aa):FF->St | .l0 v0 v1=>St.mk 29 [(2,AV.ptr 0 0 0),(4,AV.ptr 1 0 0),(5,iv v0)] [some (bK [AV.agg [AV.nils,AV.nils,AV.nils]] 3),some (Blk.mk [AV.agg [AV.sl 2 0 (Uo (iN (Ao n)).toNat false).length,AV.sl 3 0 v1.length,AV.nils]] 3 false true none),some (bK (Uo (iN (Ao n)).toNat (bV false)) 1),some (bK (Un iv v1) 1)]
def Mh(n:Aa):Option (FF⊕Ret):=gu (RwV n) <|br (!Bc n) (some (.inr ([],AV.tup [AV.agg [AV.nils,AV.nils,AV.nils],iV 20]))) (gu (Aq n) <|gu (1 * iN (Ao n)<=281474976710656) <|gu (iN (Ao n)<=9223372036854775807) <|gu (8 * iN (Ao n)<=281474976710656) <|some (.inl (.l0 ((0:Int)) (Uo (iN (Ao n)).toNat 0))))
def Hl(n:Aa)(v0:Int)(v1:List Int):Option (FF⊕Ret):=br (decide (v0<iN v1.length)) (gu (0<=v0) <|gu (v0<iN v1.length) <|gu ((0+v0.toNat).succ.le (Un iV v1).length) <|some (.inl (.l0 (i64.wrap (v0+1)) (v1.set (0+v0.toNat) (-1))))) (some (.inr ([],AV.tup [AV.agg [Ut (Uo (iN (Ao n)).toNat (bV false)),Ut (Un iV v1),AV.nils],iV 0])))
def r20nStep(n:Aa):FF->Option (FF⊕Ret) | .l0 v0 v1=>Hl n v0 v1
theorem r20n_ct(n:Aa)(r:Ret)(h:Ac (r20nStep n) (Mh n) r):CT Uu 53 ([]) ([Aj n]) r.1 r.2:=
 CT.mach (fn:=Tryz.f53) (c:=zB Tryz.f53) (S:=(I2 n)) (hd:=FF.ctorIdx) Tryz.func53 (by kernel_rfl) (nL rfl)
  (fun s o ho=>match s,ho with
 | .l0 v0 v1,ho=>Scr.ok (X:=Hl n v0 v1) ho mix (
 .rn 0 [] [] [] [] (al (u2 (u2 (u2 (u2 (al t3)))))) <|
 .br (fun a0=>
 .gu fun a1=>
 .gu fun a2=>
 .gu fun a3=>
 .lq [43] [] [] [] [] [0,1,2,3] [2,4,5] (up [] [(1,[AV.agg [AV.sl 2 0 (Uo (iN (Ao n)).toNat false).length,AV.sl 3 0 v1.length,AV.nils]]),(3,(Un iv v1).set (0+v0.toNat) (iv (-1)))] (I2 n (.l0 (i64.wrap (v0+1)) (v1.set (0+v0.toNat) (-1))))) (aj (aj a0 (aj (u2 (u2 (u2 (aj (k2 (aj a1 a2)) (al (ak a3)))))) (al (u2 (u2 s2))))) (ak (k3 (aj (al t4) t3)))) (by simp[up,upF,upV,upH,upB,I2,gL,boL,lI,sA,bA]))
 (fun a0=>
 .rt [42] [] [] [] [] [2,3] (aj (aj a0 (al (u2 (aj (k2 n11) t2)))) (al (aj (aj (show(Uo (iN (Ao n)).toNat false).length=(Uo (iN (Ao n)).toNat (bV false)).length by simp) (aj (show v1.length=(Un iv v1).length by simp) t2)) t2))))) (by kernel_rfl)
  )
  (fun o ho=>Scr.ok (X:=Mh n) ho mix (
 .rn 0 [] [] [] [] (al (u2 t3)) <|
 .gu fun a0=>
 have c0:=Nu a0;
 .rn 0 [] [] [(7,hK c0 [] [])] [] (al (u2 (aj (ak (aj t9 (al (c0)))) s2))) <|
 .br (fun a1=>
 .rt [17] [] [] [] [] [] (aj (aj a1 (al (ak (aj (k2 n11) t2)))) (al (aj t4 t2))))
 (fun a1=>
 .gu fun a2=>
 .gu fun a3=>
 .gu fun a4=>
 .gu fun a5=>
 have c1:=FH a2;
 have c2:=FH a2;
 .lq [16] [] [(11,hK c1 [] []),(14,hK c2 [] [])] [] [] [1,4,2,3] [2,4,5] (up [] [(1,[AV.agg [AV.sl 2 0 (iN (Ao n)).toNat,AV.sl 3 0 (iN (Ao n)).toNat,AV.nils]]),(3,Uo (iN (Ao n)).toNat (iv 0))] (I2 n (.l0 ((0:Int)) (Uo (iN (Ao n)).toNat 0)))) (aj (aj a1 (aj (u2 (aj (ak (aj t9 (al (c1)))) (aj (k2 (aj (show 0<=iN (Ao n) by simp) (aj (show iN (Ao n)<=iN (Ao n) by omega) (aj a3 a4)))) (u2 (aj (ak (aj t9 (al (c2)))) (aj (k2 (aj (show 0<=iN (Ao n) by simp) (aj (show iN (Ao n)<=iN (Ao n) by omega) (aj a5 a4)))) (aj t3 (ak (al (k2 n11)))))))))) s2)) (ak (k3 (aj (al t4) t3)))) (by simp[up,upF,upV,upH,upB,I2,gL,boL,lI,sA,bA]))) (by kernel_rfl)) h
theorem KD{σ ρ:Type}{step:σ->Option (σ⊕ρ)}(L:Nat->σ)(N:Nat)(p:Nat->Bool){rF:Nat->ρ}{r:ρ}
  (hb:∀i,i<N->(∀j,j<i->p j=false)->p i=true->Ac step (some (.inl (L i))) (rF i))
  (hg:∀i x,i<N->(∀j,j<i->p j=false)->p i=false->Ac step (some (.inl (L (i+1)))) x->Ac step (some (.inl (L i))) x)
  (he:fnd p 0 N=none->Ac step (some (.inl (L N))) r):Ac step (some (.inl (L 0))) (match fnd p 0 N with | some i=>rF i | none=>r):=by
 have key:∀k i,i+k=N->(∀j,j<i->p j=false)->fnd p 0 N=fnd p i (N-i)->Ac step (some (.inl (L i))) (match fnd p i (N-i) with | some i=>rF i | none=>r):=by
  intro k;induction k with
  | zero=>intro i hi _ h0
          have e:i=N:=by omega
          subst e;rw[Pq (by omega)] at h0 ⊢
          exact he h0
  | succ k ih=>
   intro i hi hj h0;have hlt:i<N:=by omega
   rw[Qg hlt] at h0 ⊢
   cases hp:p i with
   | true=>exact hb i hlt hj hp
   | false=>
    rw[hp] at h0;refine hg i _ hlt hj hp (ih (i+1) (by omega) (fun j h=>?_) h0);rcases Um j i with h1 | h1
    .exact hj j h1
    .have:j=i:=by omega
     subst this;exact hp
 exact key N 0 (by omega) (fun j h=>absurd h (Ul _)) rfl
theorem con_c(l:List Int)(x:Int)(hl:l.length<=9223372036854775807):CT Uu 92 [] [lI l,.int .i64 x] [] (.bool (AU l x)):=by refine con_ct l x ([],_) ?_;unfold Ou;rw[Ab hl,idxZ_has];exact .ret _
theorem Im{n:Aa}(hv:Aq n):Ao n<=48/\n.bs.length<=Ao n:=⟨hv.cel.2.2,hv.cel.2.1⟩
theorem Kw{α:Type}(l:List α)(i:Nat):Uq ((i:Int).toNat-Us 0) (Up (Us 0) l)=l.take i:=by rw[TC];simp
theorem MI{nb:Nat}{s:Ak}{i:Nat}(hi:i<=s.pe.length)(hbd:∀j,j<i->bdP nb s j=false):i<=nb:=by
 unfold bdP at hbd;simp only[Bool.or_eq_false_iff,decide_eq_false_iff_not] at hbd;have hn:(s.pe.take i).Nodup:=nd_of fun j h=>by
  rw[TY] at h;have e:(s.pe.take i).getD j 0=s.pe.getD j 0:=by rw[Tu,TP,Tq (by omega),<-Tu]
  rw[e,List.take_take,Nat.min_eq_left (by omega)];exact(hbd j (by omega)).2.2.2
 have:=Q6 hn (d:=(List.range nb).map fun i:Nat=>(i:Int)) fun x hx=>by obtain⟨j,hj,rfl⟩:=T7.1 hx;rw[TY] at hj;have:=hbd j (by omega);rw[Tu,Tt (show j<s.pe.length by omega)] at this;simp only[Option.getD_some] at this;rw[List.getElem_take];exact Qt (by omega) (by omega)
 rw[Tw,Ue,TY] at this;omega
theorem fo_c{n:Aa}(s:Ak)(hv:Aq n):CT Uu 149 [] [Aj n,sgA s] [] (.bool (FO n s)):=by
 refine fo_ct n s ([],_) ?_;obtain⟨h48,hnb⟩:=Im hv;unfold foEn FO;rw[Ab hv,A9,Tw];by_cases h1:s.cl.length=Ao n
 case neg=>rw[Ag (Ui.2 (by simp only[iN];omega)),AD h1];exact .ret _
 rw[Ad (by rw[h1];simp),AC h1,Bool.true_and];by_cases h2:s.bw.length=Ao n
 case neg=>rw[Ag (Ui.2 (by simp only[iN];omega)),AD h2];exact .ret _
 rw[Ad (by rw[h1,h2];simp),AC h2,Bool.true_and];refine(KD (fun i=>D8.l0 (i:Int)) s.bw.length (bdW s) (rF:=fun _=>([],.bool false)) (r:=([],.bool (fnd (bdP n.bs.length s) 0 s.pe.length).isNone)) (fun i hi _ hp=>?_) (fun i x hi _ hp hx=>?_) (fun _=>?_)).res (by cases fnd (bdW s) 0 s.bw.length<;>rfl)
 .refine .to (show Ep n s i=_ from ?_) (.ret _);unfold Ep;unfold bdW at hp;rw[C0 0 hi];cases hd1:decide (s.bw.getD i 0 < -1) with
  | true=>rw[Ag rfl]
  | false=>
   rw[hd1,Tm] at hp;rw[Ad rfl,elG 0 hi];cases hd2:decide (8<=s.bw.getD i 0) with
   | true=>rw[Ag rfl]
   | false=>rw[hd2,Tm,TB] at hp;rw[Ad rfl,elG 0 hi,Ag (by have:=of_decide_eq_true hp.1;exact Ui.2 (by omega)),elG true (show i<s.cl.length by omega),Ag hp.2]
 .refine .to (show Ep n s i=_ from ?_) hx;unfold Ep;unfold bdW at hp;simp only[Bool.or_eq_false_iff] at hp;rw[C0 0 hi,Ad hp.1,elG 0 hi,Ad hp.2.1,elG 0 hi,zW i (by omega)];have h3:=of_decide_eq_false hp.1;by_cases hm:s.bw.getD i 0 = -1
  .rw[Ad (by rw[hm];rfl)]
  .rw[Ag (Ui.2 hm),elG true (show i<s.cl.length by omega)];have hq:=hp.2.2;rw[AC (show 0<=s.bw.getD i 0 by omega),Bool.true_and] at hq;rw[Ad hq]
 .refine .to (show Ep n s s.bw.length=_ from ?_) ?_ (y:=some (.inl (.l1 ((0:Nat):Int))))
  .unfold Ep;rw[AQ];rfl
  refine(KD (fun i=>D8.l1 (i:Int)) s.pe.length (bdP n.bs.length s) (rF:=fun _=>([],.bool false)) (r:=([],.bool true)) (fun i hi hj hp=>?_) (fun i x hi hj hp hx=>?_) (fun _=>?_)).res (by cases fnd (bdP n.bs.length s) 0 s.pe.length<;>rfl)
  .have hi24:=MI (Nat.le_of_lt hi) hj;refine .to (show EK n s i=_ from ?_) (.ret _);unfold EK;unfold bdP at hp;rw[C0 0 hi];by_cases hd1:s.pe.getD i 0<0
   .rw[Ag (AC hd1)]
   rw[AD hd1,Tm] at hp;rw[Ad (AD hd1)];by_cases hd2:(n.bs.length:Int)<=s.pe.getD i 0
   .rw[Ag (AC (by rw[Tw];exact hd2))]
   rw[AD hd2,Tm] at hp;rw[Ad (AD (by rw[Tw];exact hd2)),Ab (by omega),Ar (Az true (show(s.pe.getD i 0).toNat<s.cl.length by omega))];cases hd3:s.cl.getD (s.pe.getD i 0).toNat true with
   | true=>rw[Ag rfl]
   | false=>rw[hd3,Tm] at hp;rw[Ad rfl,Ab (Gf _),Ab (by simp only[iN,Tw];omega),Kw,Ab (by rw[TY];omega),Ag hp]
  .have hi24:=MI (Nat.le_of_lt hi) hj;refine .to (show EK n s i=_ from ?_) hx;unfold EK;unfold bdP at hp;simp only[Bool.or_eq_false_iff,decide_eq_false_iff_not] at hp;rw[C0 0 hi,Ad (AD hp.1),Ad (AD (by rw[Tw];exact hp.2.1)),Ab (by omega),Ar (Az true (show(s.pe.getD i 0).toNat<s.cl.length by omega)),Ad hp.2.2.1,Ab (Gf _),Ab (by simp only[iN,Tw];omega),Kw,Ab (by rw[TY];omega),Ad hp.2.2.2,zW i (by omega)]
  .refine .to (show EK n s s.pe.length=_ from ?_) (.ret _);unfold EK;rw[AQ]
theorem Mu{P:Program}{o:Oper}{ev:Operand->AV}{h:Hp}{nb:Nat}{t t' e:TypeId}{x y:Operand}(ho:o.op = .binOp .eql t x y t')(hu:P.underlying t=some (.slice e))(hx:ev x = .lst [])(hy:ev y = .nils):
  Jb P o ev h nb (fun R=>∃b,R={v:=.bool b}):=by
 intro φ A w a K Q hA hv hh hn k;have h1:=hv x;rw[hx] at h1;have h2:=hv y;rw[hy] at h2;have h2:=h2.nils_inv;have hs:∃ad c,a.eval x = .slice ad 0 c:=by
  rcases h1.lst_inv with ⟨_,ad,he⟩ | ⟨r,o',cap,z,g,he,_⟩
  .exact⟨ad,0,he⟩
  .exact⟨_,cap,he⟩
 obtain⟨ad,c,he⟩:=hs;have key:∃b,(execOp a.eval o).run P w = .ok (.value (.bool b)) w:=by
  have hg:(eqGuard .eql t x y (.slice ad 0 c) (.slice none 0 0)).run P w = .ok () w:=by unfold eqGuard;split<;>simp_all
  have hr:∃b,(Op.equal t (.slice ad 0 c) (.slice none 0 0)).run P w = .ok b w:=by
   have key:∀d,∃b,(Op.equalIn (d+1) t (.slice ad 0 c) (.slice none 0 0)).run P w = .ok b w:=by
    intro d;cases ad with
    | none=>exact⟨true,by simp[Op.equalIn,run_underlying hu]⟩
    | some ad=>exact⟨false,by simp[Op.equalIn,run_underlying hu]⟩
   exact key 9999
  obtain⟨b,hr⟩:=hr;refine⟨b,?_⟩;simp only[execOp,ho,he,h2,Sem.run_bind,hg,Result.andThen_ok,binOp,hr];rfl
 obtain⟨b,hb⟩:=key;have hv1:An P o ev h nb {v:=.bool b}->True:=fun _=>trivial
 unfold Oper.wp;rw[hb];refine k {v:=.bool b} _ w φ ⟨b,rfl⟩ ⟨Bp.refl _ w,fun _ _=>rfl,fun b hb=>hn b (by simpa using hb),fun b r z hb h=>?_,fun b b' r z z' hb _ h _=>?_,.imm _ _ (.bool _),fun b blk hm=>by simp at hm,fun blk hm=>by simp at hm,?_,?_⟩
 .rw[hn b hb] at h;cases h
 .rw[hn b hb] at h;cases h
 .intro b blk hm;simp at hm
 .intro b blk hm;simp at hm
theorem cl97_e:CT Uu 73 [] [.lst []] [some (Blk.mk [] 1 true true none)] (.sl 0 0 0):=by
 refine CT.of Tryz.func73 (show Tryz.f73.body=some (zB Tryz.f73) from by kernel_rfl) (nL rfl) ?_;refine T.seq ?_;refine T.ops (st':=?st1) ?steps1 ?post1
 case steps1=>refine .av (.nils) rfl rfl rfl (by kernel_rfl) ?_;exact .nil _
 show T Uu 0 _ _ _;refine T.seq (T.seq ?_);refine T.opsN (.val (v:=.lst []) (noG rfl) rfl (nL rfl) (BV rfl (hint:=.no) (R:={v:=.lst []}) (p:=True) (by kernel_rfl) trivial).1 (.one (S:=fun R=>∃b,R={v:=.bool b}) (noG rfl) (Mu (e:=3) rfl (by kernel_rfl) rfl rfl) (fun R hR=>?_) (fun R hR=>?_)))
 .obtain⟨b,rfl⟩:=hR;exact⟨OpR.fits_value _ _,fun b hb=>by simp at hb,fun d hd=>by cases hd;exact nL rfl⟩
 obtain⟨b,rfl⟩:=hR;refine .nil ?_;cases b with
 | true=>
  refine T.cond_true rfl (T.seq ?_);refine T.ops (st':=?st2) ?steps2 ?post2
  case steps2=>refine .av (.nils) rfl rfl rfl (by kernel_rfl) ?_;exact .nil _
  refine T.ret ?_;refine⟨.inr rfl,.nils,⟨Tryz.f73.ntmps,[(0,.sl 0 0 0)],[some (Blk.mk [] 1 true true none)]⟩,rfl,Ren.less rfl (TF _) (fun s=>?_) (fun b blk hb=>?_),rfl,rfl,(nL rfl)⟩
  .cases s with
   | zero=>exact .nilS _ _
   | succ s=>exact .refl _
  .cases b with
   | zero=>simp[nth] at hb;subst hb;exact .inr ⟨TE _,rfl,rfl,rfl,rfl⟩
   | succ b=>simp[nth] at hb
 | false=>
  refine T.cond_false rfl (T.skip ?_);refine T.seq ?_;refine T.ops (st':=?st3) ?steps3 ?post3
  case steps3=>refine .new (v:=.sl 0 0 0) (blk:=Blk.mk [] 1 true true none) rfl rfl (nL rfl) (BV rfl (hint:=.no) (R:={v:=.sl 0 0 0,new:=[Blk.mk [] 1 true true none]}) (p:=True) (by kernel_rfl) trivial).1 ?_;refine .av (.lst []) rfl rfl rfl (by kernel_rfl) ?_;refine .move (v:=.sl 1 0 0) (b:=0) (blk:=Blk.mk [] 1 true true none) rfl rfl (nL rfl) rfl rfl (TF _) (BV rfl (hint:=.no) (R:={v:=.sl 1 0 0,dead:=[0],new:=[Blk.mk [] 1 true true none]}) (p:=0=0/\BD (nth [some (Blk.mk [] 1 true true none)]) 1 (.lst [])/\0+0<=9223372036854775807/\(0+0) * 8<=140737488355328) (by kernel_rfl) ⟨rfl,(fun e he=>by cases he),(by omega),(by omega)⟩).1 ?_;refine .av (.sl 1 0 0) rfl rfl rfl (by kernel_rfl) ?_;exact .nil _
  refine T.ret ?_;exact⟨.inr rfl,.sl 1 0 0,⟨Tryz.f73.ntmps,[(0,.sl 0 0 0)],[some (Blk.mk [] 1 true true none)]⟩,rfl,Ren.of (p:=True/\True/\True) [1] [] [0] (by kernel_rfl) ⟨trivial,trivial,trivial⟩ rfl rfl rfl,rfl,rfl,(nL rfl)⟩
theorem cl55_e:CT Uu 45 [] [.lst []] [some (Blk.mk [] 1 true true none)] (.sl 0 0 0):=by
 refine CT.of Tryz.func45 (show Tryz.f45.body=some (zB Tryz.f45) from by kernel_rfl) (nL rfl) ?_;refine T.seq ?_;refine T.ops (st':=?st1) ?steps1 ?post1
 case steps1=>refine .av (.nils) rfl rfl rfl (by kernel_rfl) ?_;exact .nil _
 show T Uu 0 _ _ _;refine T.seq (T.seq ?_);refine T.opsN (.val (v:=.lst []) (noG rfl) rfl (nL rfl) (BV rfl (hint:=.no) (R:={v:=.lst []}) (p:=True) (by kernel_rfl) trivial).1 (.one (S:=fun R=>∃b,R={v:=.bool b}) (noG rfl) (Mu (e:=4) rfl (by kernel_rfl) rfl rfl) (fun R hR=>?_) (fun R hR=>?_)))
 .obtain⟨b,rfl⟩:=hR;exact⟨OpR.fits_value _ _,fun b hb=>by simp at hb,fun d hd=>by cases hd;exact nL rfl⟩
 obtain⟨b,rfl⟩:=hR;refine .nil ?_;cases b with
 | true=>
  refine T.cond_true rfl (T.seq ?_);refine T.ops (st':=?st2) ?steps2 ?post2
  case steps2=>refine .av (.nils) rfl rfl rfl (by kernel_rfl) ?_;exact .nil _
  refine T.ret ?_;refine⟨.inr rfl,.nils,⟨Tryz.f45.ntmps,[(0,.sl 0 0 0)],[some (Blk.mk [] 1 true true none)]⟩,rfl,Ren.less rfl (TF _) (fun s=>?_) (fun b blk hb=>?_),rfl,rfl,(nL rfl)⟩
  .cases s with
   | zero=>exact .nilS _ _
   | succ s=>exact .refl _
  .cases b with
   | zero=>simp[nth] at hb;subst hb;exact .inr ⟨TE _,rfl,rfl,rfl,rfl⟩
   | succ b=>simp[nth] at hb
 | false=>
  refine T.cond_false rfl (T.skip ?_);refine T.seq ?_;refine T.ops (st':=?st3) ?steps3 ?post3
  case steps3=>refine .new (v:=.sl 0 0 0) (blk:=Blk.mk [] 1 true true none) rfl rfl (nL rfl) (BV rfl (hint:=.no) (R:={v:=.sl 0 0 0,new:=[Blk.mk [] 1 true true none]}) (p:=True) (by kernel_rfl) trivial).1 ?_;refine .av (.lst []) rfl rfl rfl (by kernel_rfl) ?_;refine .move (v:=.sl 1 0 0) (b:=0) (blk:=Blk.mk [] 1 true true none) rfl rfl (nL rfl) rfl rfl (TF _) (BV rfl (hint:=.no) (R:={v:=.sl 1 0 0,dead:=[0],new:=[Blk.mk [] 1 true true none]}) (p:=0=0/\BD (nth [some (Blk.mk [] 1 true true none)]) 1 (.lst [])/\0+0<=9223372036854775807/\(0+0) * 1<=140737488355328) (by kernel_rfl) ⟨rfl,(fun e he=>by cases he),(by omega),(by omega)⟩).1 ?_;refine .av (.sl 1 0 0) rfl rfl rfl (by kernel_rfl) ?_;exact .nil _
  refine T.ret ?_;exact⟨.inr rfl,.sl 1 0 0,⟨Tryz.f45.ntmps,[(0,.sl 0 0 0)],[some (Blk.mk [] 1 true true none)]⟩,rfl,Ren.of (p:=True/\True/\True) [1] [] [0] (by kernel_rfl) ⟨trivial,trivial,trivial⟩ rfl rfl rfl,rfl,rfl,(nL rfl)⟩
def Iy(c:Int):Option (Empty⊕Ret):=some (.inr ([],AV.tup [uV (u64.wrap (u64.wrap (u64.wrap (0 * c.fdiv 4294967296)+(u64.wrap (u64.wrap (0 * u64.wrap (iN (BitVec.ofInt 64 c &&& BitVec.ofInt 64 4294967295).toNat))+(u64.wrap (1 * u64.wrap (iN (BitVec.ofInt 64 c &&& BitVec.ofInt 64 4294967295).toNat))).fdiv 4294967296)).fdiv 4294967296)+(u64.wrap (u64.wrap (iN (BitVec.ofInt 64 (u64.wrap (u64.wrap (0 * u64.wrap (iN (BitVec.ofInt 64 c &&& BitVec.ofInt 64 4294967295).toNat))+(u64.wrap (1 * u64.wrap (iN (BitVec.ofInt 64 c &&& BitVec.ofInt 64 4294967295).toNat))).fdiv 4294967296)) &&& BitVec.ofInt 64 4294967295).toNat)+u64.wrap (1 * c.fdiv 4294967296))).fdiv 4294967296)),uV (u64.wrap (1 * c))]))
theorem mulS_ct(c:Int)(r:Ret)(h:Ac emT (Iy c) r):CT Uu 157 ([]) ([.int .u64 1,.int .u64 c]) r.1 r.2:=
 CT.mach (fn:=Tryz.f157) (c:=zB Tryz.f157) (S:=emS) (hd:=emH) Tryz.func157 (by kernel_rfl) (nL rfl)
  (fun s o ho=>match s,ho with
   | x,_=>x.elim)
  (fun o ho=>Scr.ok (X:=Iy c) ho mix (
 .rt [] [] [] [] [] [] (aj (aj t3 (aj (u2 (u2 s2)) (aj (u2 (aj (ak (show Int.NonNeg (32:Int) from(by first | decide | exact S8 _))) s2)) (aj (u2 (u2 s2)) (aj (u2 (aj (ak (show Int.NonNeg (32:Int) from(by first | decide | exact S8 _))) s2)) (aj (u2 (u2 (aj t3 s2))) (aj (u2 (u2 (aj t3 (u2 (aj (ak (show Int.NonNeg (32:Int) from(by first | decide | exact S8 _))) (aj t3 s2)))))) (aj (u2 (u2 s2)) (aj (u2 (aj (ak (show Int.NonNeg (32:Int) from(by first | decide | exact S8 _))) s2)) (aj (u2 (u2 (u2 (aj t3 (aj t3 s2))))) (aj (u2 (u2 (aj t3 (u2 (aj t3 (u2 (aj (ak (show Int.NonNeg (32:Int) from(by first | decide | exact S8 _))) (aj t3 s2)))))))) (al (u2 (u2 (aj t3 s2))))))))))))))) (al t3))) (by kernel_rfl)) h
theorem mulS_fin:∀n:Fin 49,Iy ((n.val:Nat):Int)=some (.inr ([],AV.tup [AV.int .u64 0,AV.int .u64 ((n.val:Nat):Int)])):=fun n=>by
 have h:∀n:Fin 49,(match Iy ((n.val:Nat):Int) with | some (.inr ([],.tup [.int _ a,.int _ b]))=>decide (a=0)&&decide (b=((n.val:Nat):Int)) | _=>false)=true:=by decide +kernel
 have h:=h n;unfold Iy at h ⊢
 simp only[TB,decide_eq_true_eq] at h;rw[h.1,h.2]
theorem mul64_c(c:Int)(h:0<=c/\c<=48):CT Uu 157 [] [.int .u64 1,.int .u64 c] [] (.tup [.int .u64 0,.int .u64 c]):=by
 refine mulS_ct c ([],_) (.val ?_);have:=mulS_fin ⟨c.toNat,by omega⟩;have e:((c.toNat:Nat):Int)=c:=by omega
 simp only[e] at this;exact this
def L3(c:Int):Option (Empty⊕Ret):=gu (0<=c/\c<=48) <|some (.inr ([],AV.tup [uV 0,uV c]))
theorem mulT_ct(c:Int)(r:Ret)(h:Ac emT (L3 c) r):CT Uu 141 ([]) ([.int .u64 1,.int .u64 c]) r.1 r.2:=
 CT.mach (fn:=Tryz.f141) (c:=zB Tryz.f141) (S:=emS) (hd:=emH) Tryz.func141 (by kernel_rfl) (nL rfl)
  (fun s o ho=>match s,ho with
   | x,_=>x.elim)
  (fun o ho=>Scr.ok (X:=L3 c) ho mix (
 .rn 0 [] [] [] [] (al t3) <|
 .gu fun a0=>
 have c0:=mul64_c c a0;
 .rt [] [] [(25,hK c0 [] [])] [] [] [] (aj (ak (aj (u2 (u2 (aj (ak (k3 (al (c0)))) (u2 (u2 (u2 (u2 s2))))))) (al (u2 (u2 (u2 s2)))))) (al t3))) (by kernel_rfl)) h
theorem mul_c(c:Int)(h:0<=c/\c<=48):CT Uu 141 [] [.int .u64 1,.int .u64 c] [] (.tup [.int .u64 0,.int .u64 c]):=by refine mulT_ct c ([],_) (.val ?_);unfold L3;rw[Ab h]
inductive EW where | l0 (v0:Int) (v1:List Int)
def JA(c:Int):EW->St | .l0 v0 v1=>St.mk 48 [(7,AV.sl 0 0 (i64.wrap (u64.wrap c)).toNat),(8,iv v0)] [some (bK (Un iv v1) 1)]
def Lg(c:Int):Option (EW⊕Ret):=br (decide (c<0)) (none) (gu (0<=u64.wrap c/\u64.wrap c<=48) <|br (decide (9223372036854775807<u64.wrap c)) (none) (gu (0<=i64.wrap (u64.wrap c)) <|gu (8 * i64.wrap (u64.wrap c)<=281474976710656) <|gu (i64.wrap (u64.wrap c)<=9223372036854775807) <|some (.inl (.l0 (iN (min 1 (i64.wrap (u64.wrap c)).toNat)) (Uq (min 1 (i64.wrap (u64.wrap c)).toNat) [-1]++Up (0+min 1 (i64.wrap (u64.wrap c)).toNat) (Uo (i64.wrap (u64.wrap c)).toNat 0))))))
def K6(c v0:Int)(v1:List Int):Option (EW⊕Ret):=br (decide (v0<iN (i64.wrap (u64.wrap c)).toNat)) (gu (0<=v0) <|gu (v0<=iN (i64.wrap (u64.wrap c)).toNat) <|gu (0+v0.toNat+((i64.wrap (u64.wrap c)).toNat-v0.toNat)<=(Un iV v1).length) <|gu (0+(v0.toNat-Us 0)<=(Un iV v1).length) <|some (.inl (.l0 (i64.wrap (v0+iN (min (Uq (v0.toNat-Us 0) (Up 0 (Un iV v1))).length ((i64.wrap (u64.wrap c)).toNat-v0.toNat)))) (Uq (0+v0.toNat) v1++Uq (min (Uq (v0.toNat-Us 0) (Up 0 (Un iV v1))).length ((i64.wrap (u64.wrap c)).toNat-v0.toNat)) (Uq (v0.toNat-Us 0) (Up 0 v1))++Up (0+v0.toNat+min (Uq (v0.toNat-Us 0) (Up 0 (Un iV v1))).length ((i64.wrap (u64.wrap c)).toNat-v0.toNat)) v1)))) (some (.inr ([some (bK (Un iV v1) 1)],AV.sl 0 0 (i64.wrap (u64.wrap c)).toNat)))
def OT(c:Int):EW->Option (EW⊕Ret) | .l0 v0 v1=>K6 c v0 v1
theorem rep_ct(c:Int)(r:Ret)(h:Ac (OT c) (Lg c) r):CT Uu 99 ([]) ([lI [-1],.int .i64 c]) r.1 r.2:=
 CT.mach (fn:=Tryz.f99) (c:=zB Tryz.f99) (S:=(JA c)) (hd:=EW.ctorIdx) Tryz.func99 (by kernel_rfl) (nL rfl)
  (fun s o ho=>match s,ho with
 | .l0 v0 v1,ho=>Scr.ok (X:=K6 c v0 v1) ho mix (
 .rn 0 [] [] [] [] (al (u2 (u2 (u2 (al t3))))) <|
 .br (fun a0=>
 .gu fun a1=>
 .gu fun a2=>
 .gu fun a3=>
 .gu fun a4=>
 .lq [75] [] [] [] [] [0] [7,8] (up [] [(0,Uq (0+v0.toNat) (Un iv v1)++Uq (min (Uq (v0.toNat-Us 0) (Up 0 (Un iv v1))).length ((i64.wrap (u64.wrap c)).toNat-v0.toNat)) (Uq (v0.toNat-Us 0) (Up 0 (Un iv v1)))++Up (0+v0.toNat+min (Uq (v0.toNat-Us 0) (Up 0 (Un iv v1))).length ((i64.wrap (u64.wrap c)).toNat-v0.toNat)) (Un iv v1))] (JA c (.l0 (i64.wrap (v0+iN (min (Uq (v0.toNat-Us 0) (Up 0 (Un iv v1))).length ((i64.wrap (u64.wrap c)).toNat-v0.toNat)))) (Uq (0+v0.toNat) v1++Uq (min (Uq (v0.toNat-Us 0) (Up 0 (Un iv v1))).length ((i64.wrap (u64.wrap c)).toNat-v0.toNat)) (Uq (v0.toNat-Us 0) (Up 0 v1))++Up (0+v0.toNat+min (Uq (v0.toNat-Us 0) (Up 0 (Un iv v1))).length ((i64.wrap (u64.wrap c)).toNat-v0.toNat)) v1)))) (aj (aj a0 (al (u2 (u2 (u2 (aj (k2 (aj a1 (aj a2 (aj (show iN (i64.wrap (u64.wrap c)).toNat<=iN (i64.wrap (u64.wrap c)).toNat by omega) (show iN (i64.wrap (u64.wrap c)).toNat<=iN (i64.wrap (u64.wrap c)).toNat by omega))))) (u2 (u2 (aj (k2 (aj (Int.le_refl 0) (aj a1 (aj a2 (show iN (i64.wrap (u64.wrap c)).toNat<=iN (i64.wrap (u64.wrap c)).toNat by omega))))) (aj (k2 (aj a3 (aj (show nat_lit 1=nat_lit 1 from rfl) a4))) (aj t3 s2))))))))))) t4) (by simp[up,upF,upV,upH,upB,JA,gL,boL,lI]))
 (fun a0=>
 .rt [74] [] [] [] [0] [] (aj (aj a0 (al (u2 s2))) t3))) (by kernel_rfl)
  )
  (fun o ho=>Scr.ok (X:=Lg c) ho mix (
 .rn 1 [] [] [] [] (u2 (al (u2 s2))) <|
 .br (fun a0=>
 .no)
 (fun a0=>
 .gu fun a1=>
 have c0:=mul_c (u64.wrap c) a1;
 .rn 1 [20] [] [(18,hK c0 [] [])] [] (aj a0 (aj (u2 (u2 (u2 (u2 (u2 (aj (ak (k3 (al (c0)))) (u2 (u2 (u2 (u2 s2)))))))))) (al (u2 (u2 (u2 (aj t3 (aj t3 (al t3))))))))) <|
 .br (fun a2=>
  .no)
 (fun a2=>
  .gu fun a3=>
  .gu fun a4=>
  .gu fun a5=>
  .lq [52] [] [] [] [] [0] [7,8] (up [] [(0,[]++Uq (min 1 (i64.wrap (u64.wrap c)).toNat) [iv (-1)]++Up (0+min 1 (i64.wrap (u64.wrap c)).toNat) (Uo (i64.wrap (u64.wrap c)).toNat (iv 0)))] (JA c (.l0 (iN (min 1 (i64.wrap (u64.wrap c)).toNat)) (Uq (min 1 (i64.wrap (u64.wrap c)).toNat) [-1]++Up (0+min 1 (i64.wrap (u64.wrap c)).toNat) (Uo (i64.wrap (u64.wrap c)).toNat 0))))) (aj (aj a2 (aj (u2 (u2 (aj (k2 (aj a3 (aj (show i64.wrap (u64.wrap c)<=i64.wrap (u64.wrap c) by omega) (aj a4 a5)))) s2))) (al (u2 (u2 (aj (k2 (aj (show 0+(i64.wrap (u64.wrap c)).toNat<=(Uo (i64.wrap (u64.wrap c)).toNat (iv 0)).length by simp) (show ∀(e:AV),e∈[iv (-1:Int)]->e.cells.length=nat_lit 1 from(by first | decide | exact S8 _)))) s2)))))) t4) (by simp[up,upF,upV,upH,upB,JA,gL,boL,lI])))) (by kernel_rfl)) h
def rpV(c m:Nat):List Int:=Uo m (-1)++Uo (c-m) 0
theorem rpV_step{c m k:Nat}(hk:k<=m)(hc:m+k<=c):Uq (0+m) (rpV c m)++Uq k (Uq (m-0) (Up 0 (rpV c m)))++Up (0+m+k) (rpV c m)=rpV c (m+k):=by
 have e1:Uq m (rpV c m)=Uo m (-1):=by unfold rpV;rw[List.take_append_of_le_length (by simp)];simp
 have e2:Up (m+k) (rpV c m)=Uo (c-(m+k)) 0:=by unfold rpV;rw[List.drop_append,List.drop_of_length_le (by simp),TR,List.nil_append,List.drop_replicate];congr 1;omega
 rw[TI,Nat.sub_zero,List.drop_zero,e1,e2,List.take_replicate,Nat.min_eq_left hk,List.replicate_append_replicate];rfl
theorem Ix{c m:Nat}(h:m<=c):(rpV c m).length=c:=by unfold rpV;simp;omega
theorem wrapU{x:Int}(h1:0<=x)(h2:x<=9223372036854775807):u64.wrap x=x:=by simp only[IntKind.wrap,IntKind.bits,IntKind.signed];simp;omega
theorem wrapI{x:Int}(h1:0<=x)(h2:x<=9223372036854775807):i64.wrap x=x:=by simp only[IntKind.wrap,IntKind.bits,IntKind.signed];simp;omega
theorem rep_c(x:Int)(h:0<=x/\x<=48):CT Uu 99 [] [lI [-1],.int .i64 x] [some (Blk.mk ((Uo x.toNat (-1)).map (AV.int .i64)) 1 true true none)] (.sl 0 0 x.toNat):=by
 obtain⟨c,rfl⟩:∃c:Nat,x=c:=⟨x.toNat,by omega⟩;have h48:c<=48:=by omega
 refine rep_ct (c:Int) ([_],_) ?_;have wu:=wrapU (x:=(c:Int)) (by omega) (by omega);have wi:=wrapI (x:=(c:Int)) (by omega) (by omega);have hS:∀a b,OT (c:Int) (.l0 a b)=K6 c a b:=fun _ _=>rfl
 unfold K6 at hS;unfold Lg;simp only[wu,wi,TC] at hS ⊢
 rw[Ad (Ty (by omega)),Ab (by omega),Ad (Ty (by omega)),Ab (by omega),Ab (by omega),Ab (by omega)];have key:∀(d m:Nat),c-m<=d->m<=c->(1<=m\/c=0)->Ac (OT (c:Int)) (some (.inl (.l0 (m:Int) (rpV c m)))) (([some (Blk.mk ((Uo c (-1)).map (AV.int .i64)) 1 true true none)],.sl 0 0 c):Ret):=by
  intro d;induction d with
  | zero=>
   intro m hd hm _;obtain rfl:m=c:=by omega
   refine .to (hS _ _) ?_;rw[Ad (Ty (by simp only[iN];omega))];have:rpV m m=Uo m (-1):=by unfold rpV;simp
   rw[this];exact .ret _
  | succ d ih=>
   intro m hd hm h1;by_cases he:m=c
   .exact ih m (by omega) hm h1
   have hl:=Ix hm;refine .to (hS _ _) ?_;have hk:min (Uq (m-Us 0) (Up 0 (Un (AV.int i64) (rpV c m)))).length (c-m)=min m (c-m):=by rw[List.drop_zero,TY,Tw,hl];simp only[Int.toNat_zero];omega
   rw[Ag (Tz (by simp only[iN];omega)),Ab (by omega),Ab (by simp only[iN];omega),TC,Ab (by rw[Tw,hl];omega),Ab (by rw[Tw,hl];simp only[Int.toNat_zero];omega),hk,wrapI (by simp only[iN];omega) (by simp only[iN];omega)];have e:=rpV_step (c:=c) (m:=m) (k:=min m (c-m)) (by omega) (by omega);have e2:(m:Int)+iN (min m (c-m))=((m+min m (c-m):Nat):Int):=by simp only[iN];omega
   rw[e2];have:=ih (m+min m (c-m)) (by omega) (by omega) (by omega);rw[<-e] at this;exact this
 have e0:(some (.inl (.l0 (iN (min 1 c)) (Uq (min 1 c) [-1]++Up (0+min 1 c) (Uo c 0)))):Option (EW⊕Ret))=some (.inl (.l0 ((min 1 c:Nat):Int) (rpV c (min 1 c)))):=by
  have:Uq (min 1 c) [-1]++Up (0+min 1 c) (Uo c (0:Int))=rpV c (min 1 c):=by
   unfold rpV;cases c with
   | zero=>rfl
   | succ c=>rw[show min 1 (c+1)=1 by omega,TI,List.drop_replicate];rfl
  rw[this]
 rw[e0];exact key c (min 1 c) (by omega) (by omega) (by omega)
inductive DZ where | l0 (v0:Int) | l1 (v0:Int)
def svaSt(n:Aa)(q:Ak):DZ->St | .l0 v0=>St.mk 101 [(2,AV.ptr 0 0 0),(3,AV.ptr 1 0 0),(42,Ut (Un iv q.bw)),(43,iv (iN (Un iv q.bw).length)),(44,iv v0)] [some (bK [Aj n] 8),some (bK [AV.agg [Ut (boL q.cl),Ut (Un iv q.bw),Ut (Un iv q.pe)]] 3)] | .l1 v0=>St.mk 101 [(2,AV.ptr 0 0 0),(3,AV.ptr 1 0 0),(69,Ut (Un iv q.pe)),(70,iv (iN (Un iv q.pe).length)),(71,iv v0)] [some (bK [Aj n] 8),some (bK [AV.agg [Ut (boL q.cl),Ut (Un iv q.bw),Ut (Un iv q.pe)]] 3)]
def MN(n:Aa)(q:Ak):Option (DZ⊕Ret):=gu (RwV n) <|br (Db n != 0) (some (.inr ([],bV false))) (br (iN (boL q.cl).length != Bs n) (some (.inr ([],bV false))) (br (iN (Un iV q.bw).length != Bs n) (some (.inr ([],bV false))) (br (decide (iN (Un bA n.bs).length<iN (Un iV q.pe).length)) (some (.inr ([],bV false))) (some (.inl (.l0 ((0:Int))))))))
def EI(n:Aa)(q:Ak)(v0:Int):Option (DZ⊕Ret):=br (decide (v0<iN (Un iV q.bw).length)) (gu (0<=v0) <|el (q.bw) (v0.toNat) fun(x47:Int)=>br (decide (x47 < -1)) (some (.inr ([],bV false))) (br (decide (8<=x47)) (some (.inr ([],bV false))) (br (decide (0<=x47)) (el (q.cl) (v0.toNat) fun(x62:Bool)=>br (!x62) (some (.inr ([],bV false))) (some (.inl (.l0 (i64.wrap (v0+1)))))) (some (.inl (.l0 (i64.wrap (v0+1)))))))) (some (.inl (.l1 ((0:Int)))))
def EN(n:Aa)(q:Ak)(v0:Int):Option (DZ⊕Ret):=br (decide (v0<iN (Un iV q.pe).length)) (gu (0<=v0) <|el (q.pe) (v0.toNat) fun(x74:Int)=>br (decide (x74<0)) (some (.inr ([],bV false))) (br (decide (iN (Un bA n.bs).length<=x74)) (some (.inr ([],bV false))) (gu (0<=x74) <|el (q.cl) (x74.toNat) fun(x89:Bool)=>br x89 (some (.inr ([],bV false))) (gu (∀(e:AV),e∈Un iV q.pe->e.cells.length=1) <|gu (v0<=iN (Un iV q.pe).length) <|gu ((Uq (v0.toNat-Us 0) (Up (Us 0) q.pe)).length<=9223372036854775807) <|br (AU (Uq (v0.toNat-Us 0) (Up (Us 0) q.pe)) x74) (some (.inr ([],bV false))) (some (.inl (.l1 (i64.wrap (v0+1))))))))) (some (.inr ([],bV true)))
def svaStep(n:Aa)(q:Ak):DZ->Option (DZ⊕Ret) | .l0 v0=>EI n q v0 | .l1 v0=>EN n q v0
theorem sva_ct(n:Aa)(q:Ak)(r:Ret)(h:Ac (svaStep n q) (MN n q) r):CT Uu 44 ([]) ([Aj n,sgA q]) r.1 r.2:=
 CT.mach (fn:=Tryz.f44) (c:=zB Tryz.f44) (S:=(svaSt n q)) (hd:=DZ.ctorIdx) Tryz.func44 (by kernel_rfl) (nL rfl)
  (fun s o ho=>match s,ho with
 | .l0 v0,ho=>Scr.ok (X:=EI n q v0) ho mix (
 .rn 0 [] [] [] [] (al (al t3)) <|
 .br (fun a0=>
 .gu fun a1=>
 .el fun x47 a2=>
 .rn 0 [91] [(47,iv x47)] [] [] (aj a0 (al (u2 (aj (k2 (aj a1 (Af (f:=iv) a2))) (u2 (u2 s2)))))) <|
 .br (fun a3=>
  .rt [103] [] [] [] [] [] (aj (aj (u2 (u2 (u2 (aj a3 (aj a3 (ag a3 (u2 (k5 (k5 (al t3)))))))))) (ak s2)) t2))
 (fun a3=>
  .br (fun a4=>
  .rt [102,111] [] [] [] [] [] (aj (aj (u2 (u2 (u2 (ag a3 (ag a3 (ag a3 (u2 (aj a4 (aj a4 (aj a4 (ak (k5 (aj a4 (al (aj a4 t2))))))))))))))) (ak s2)) t2))
  (fun a4=>
  .br (fun a5=>
   .el fun x62 a6=>
   .rn 0 [102,110,117] [(62,bV x62)] [] [] (al (u2 (u2 (u2 (ag a3 (ag a3 (ag a3 (u2 (ag a4 (ag a4 (ag a4 (ag a5 (ag a5 (ag a5 (aj (aj a5 (k2 (aj a1 (Af (f:=bV) a6)))) (ag a5 (ag a5 (aj (aj a4 (aj a5 t2)) (al (aj a4 t2)))))))))))))))))))) <|
   .br (fun a7=>
   .rt [102,110,117,133] [] [] [] [] [] (aj (aj a7 s2) t2))
   (fun a7=>
   .lp [102,110,117,132] [] [] [] [] [0,1] [2,3,42,43,44] (aj (aj a7 (al (u2 s2))) t8)))
  (fun a5=>
   .lp [102,110,116] [] [] [] [] [0,1] [2,3,42,43,44] (aj (aj (u2 (u2 (u2 (ag a3 (ag a3 (ag a3 (u2 (ag a4 (ag a4 (ag a4 (aj a5 (aj a5 (aj a5 (aj a5 (aj a5 (aj a5 (aj (aj a4 (aj a5 t2)) (al (aj a4 t2))))))))))))))))))) (ak (al (u2 s2)))) t8)))))
 (fun a0=>
 .lp [90] [] [] [] [] [0,1] [2,3,69,70,71] (aj (aj a0 (al (u2 (u2 (u2 t2))))) t8))) (by kernel_rfl)
 | .l1 v0,ho=>Scr.ok (X:=EN n q v0) ho mix (
 .rn 0 [] [] [] [] (al (al t3)) <|
 .br (fun a0=>
 .gu fun a1=>
 .el fun x74 a2=>
 .rn 0 [145] [(74,iv x74)] [] [] (aj a0 (al (u2 (aj (k2 (aj a1 (Af (f:=iv) a2))) (u2 (u2 s2)))))) <|
 .br (fun a3=>
  .rt [157] [] [] [] [] [] (aj (aj (u2 (u2 (u2 (aj a3 (aj a3 (aj a3 (aj a3 (aj a3 (ag a3 (u2 (k5 (aj t3 (u2 (ak (k5 (al t3)))))))))))))))) (ak s2)) t2))
 (fun a3=>
  .br (fun a4=>
  .rt [156,171] [] [] [] [] [] (aj (aj (u2 (u2 (u2 (ag a3 (ag a3 (ag a3 (ag a3 (aj (aj a3 t3) (ag a3 (u2 (aj a4 (aj a4 (aj a4 (aj a4 (aj a4 (ag a4 (u2 (ak (k5 (al t3)))))))))))))))))))) (ak s2)) t2))
  (fun a4=>
  .gu fun a5=>
  .el fun x89 a6=>
  .br (fun a7=>
   .rt [156,170,185] [(89,bV x89)] [] [] [] [] (aj (aj (u2 (u2 (u2 (ag a3 (ag a3 (ag a3 (ag a3 (aj (aj a3 t3) (ag a3 (u2 (ag a4 (ag a4 (ag a4 (aj (aj a4 (k2 (aj a5 (Af (f:=bV) a6)))) (ag a4 (ag a4 (u2 (aj a7 (aj a7 (aj a7 (aj a7 (aj a7 (aj a7 (al (aj a7 t2))))))))))))))))))))))))) (ak s2)) t2))
  (fun a7=>
   .gu fun a8=>
   .gu fun a9=>
   .gu fun a10=>
   have c0:=con_c (Uq (v0.toNat-Us 0) (Up (Us 0) q.pe)) x74 a10;
   .rn 0 [156,170,184] [(89,bV x89)] [(98,hK c0 [] [])] [] (al (u2 (u2 (u2 (ag a3 (ag a3 (ag a3 (ag a3 (aj (aj a3 t3) (ag a3 (u2 (ag a4 (ag a4 (ag a4 (aj (aj a4 (k2 (aj a5 (Af (f:=bV) a6)))) (ag a4 (ag a4 (u2 (ag a7 (ag a7 (ag a7 (aj (aj a7 (k2 (aj a8 (aj (Int.le_refl 0) (aj a1 (aj a9 (show iN (Un iv q.pe).length<=iN (Un iv q.pe).length by omega))))))) (ag a7 (aj (aj a7 (ak (k3 (al (show CT Uu 92 [] [Ut (Uq (v0.toNat-Us 0) (Up (Us 0) (Un iv q.pe))),iv x74] [] (bV (AU (Uq (v0.toNat-Us 0) (Up (Us 0) q.pe)) x74)) from CT.eqs (c0) (by first | (simp only[boL,TG,Uj,List.map_take,List.map_drop,List.map_replicate,List.nil_append]<;>rfl) | (simp[gL,boL,lI,sA,bA]<;>rfl)) (by first | (simp only[boL,TG,Uj,List.map_take,List.map_drop,List.map_replicate,List.nil_append]<;>rfl) | (simp[gL,boL,lI,sA,bA]<;>rfl))))))) (al (aj a7 t2)))))))))))))))))))))))))) <|
   .br (fun a11=>
   .rt [156,170,184,199] [] [] [] [] [] (aj (aj a11 s2) t2))
   (fun a11=>
   .lp [156,170,184,198] [] [] [] [] [0,1] [2,3,69,70,71] (aj (aj a11 (al (u2 s2))) t8))))))
 (fun a0=>
 .rt [144] [] [] [] [] [] (aj (aj a0 s2) t2))) (by kernel_rfl)
  )
  (fun o ho=>Scr.ok (X:=MN n q) ho mix (
 .rn 0 [] [] [] [] (al (u2 (u2 t2))) <|
 .gu fun a0=>
 have c0:=NZ a0;
 .rn 0 [] [] [(13,hK c0 [] [])] [] (al (u2 (aj (ak (aj t9 (al (c0)))) (u2 (u2 (u2 (u2 s2))))))) <|
 .br (fun a1=>
 .rt [37] [] [] [] [] [] (aj (aj (u2 (u2 (u2 (aj a1 (aj a1 (aj a1 (aj a1 (aj a1 (ag a1 (u2 (k5 (aj t3 (u2 (k2 (k5 (al t3)))))))))))))))) (ak s2)) t2))
 (fun a1=>
 .br (fun a2=>
  .rt [36,51] [] [] [] [] [] (aj (aj (u2 (u2 (u2 (ag a1 (ag a1 (ag a1 (ag a1 (aj (aj a1 t3) (ag a1 (u2 (aj a2 (aj a2 (aj a2 (aj a2 (aj a2 (ag a2 (u2 (k2 (k5 (al t3)))))))))))))))))))) (ak s2)) t2))
 (fun a2=>
  .br (fun a3=>
  .rt [36,50,65] [] [] [] [] [] (aj (aj (u2 (u2 (u2 (ag a1 (ag a1 (ag a1 (ag a1 (aj (aj a1 t3) (ag a1 (u2 (ag a2 (ag a2 (ag a2 (ag a2 (aj (aj a2 t3) (ag a2 (u2 (aj a3 (aj a3 (aj a3 (aj a3 (aj a3 (aj a3 (aj a3 (al (aj a3 t2)))))))))))))))))))))))))) (ak s2)) t2))
  (fun a3=>
  .rn 0 [36,50,64] [] [] [] (al (u2 (u2 (u2 (ag a1 (ag a1 (ag a1 (ag a1 (aj (aj a1 t3) (ag a1 (u2 (ag a2 (ag a2 (ag a2 (ag a2 (aj (aj a2 t3) (ag a2 (u2 (ag a3 (ag a3 (ag a3 (ag a3 (ag a3 (ag a3 (aj (aj a3 t3) (al (aj a3 t2))))))))))))))))))))))))))) <|
  .br (fun a4=>
   .rt [36,50,64,81] [] [] [] [] [] (aj (aj a4 s2) t2))
  (fun a4=>
   .lp [36,50,64,80] [] [] [] [] [0,1] [2,3,42,43,44] (aj (aj a4 (al (u2 (u2 (u2 t2))))) t8)))))) (by kernel_rfl)) h
def Ot(n:Aa)(q:Ak):Option (Empty⊕Ret):=gu (RwV n) <|br (Bc n) (gu (Aq n) <|some (.inr ([],bV (FO n q)))) (some (.inr ([],bV false)))
theorem r20v_ct(n:Aa)(q:Ak)(r:Ret)(h:Ac emT (Ot n q) r):CT Uu 118 ([]) ([Aj n,sgA q]) r.1 r.2:=
 CT.mach (fn:=Tryz.f118) (c:=zB Tryz.f118) (S:=emS) (hd:=emH) Tryz.func118 (by kernel_rfl) (nL rfl)
  (fun s o ho=>match s,ho with
   | x,_=>x.elim)
  (fun o ho=>Scr.ok (X:=Ot n q) ho mix (
 .rn 0 [] [] [] [] (al (u2 (u2 t2))) <|
 .gu fun a0=>
 .br (fun a1=>
 .gu fun a2=>
 have c0:=Nu a0;
 have c1:=fo_c q a2;
 .rt [15] [] [(6,hK c0 [] []),(10,hK c1 [] [])] [] [] [] (aj (al (u2 (aj (ak (aj t9 (al (c0)))) (u2 (ag a1 (ag a1 (aj (aj a1 (k2 (aj t9 (aj t4 (al (c1)))))) (ag a1 s2)))))))) t2))
 (fun a1=>
 have c0:=Nu a0;
 .rt [14] [] [(6,hK c0 [] [])] [] [] [] (aj (al (u2 (aj (ak (aj t9 (al (c0)))) (u2 (aj a1 (aj a1 (aj a1 (ag a1 s2)))))))) t2))) (by kernel_rfl)) h
def Ln(l:List Bool):Option (Empty⊕Ret):=gu (boL l=[]->False) <|gu (∀(e:AV),e∈boL l->e.cells.length=1) <|gu (0+(boL l).length<=9223372036854775807) <|gu ((0+(boL l).length) * 1<=140737488355328) <|some (.inr ([some (bK ([]++boL l) 1)],AV.sl 0 0 (0+(boL l).length)))
theorem clb_ct(l:List Bool)(r:Ret)(h:Ac emT (Ln l) r):CT Uu 45 ([]) ([.lst (boL l)]) r.1 r.2:=
 CT.mach (fn:=Tryz.f45) (c:=zB Tryz.f45) (S:=emS) (hd:=emH) Tryz.func45 (by kernel_rfl) (nL rfl)
  (fun s o ho=>match s,ho with
   | x,_=>x.elim)
  (fun o ho=>Scr.ok (X:=Ln l) ho mix (
 .rn 0 [] [] [] [] s2 <|
 .gu fun a0=>
 .rn 0 [] [] [] [] (al (u2 (al (ak a0)))) <|
 .gu fun a1=>
 .gu fun a2=>
 .gu fun a3=>
 .rt [] [] [] [] [1] [] (aj (ak (al (ak (u2 (aj (k2 (aj (show nat_lit 0=nat_lit 0 from rfl) (aj a1 (aj a2 a3)))) s2))))) t3)) (by kernel_rfl)) h
def N2(l:List Int):Option (Empty⊕Ret):=gu (Un iV l=[]->False) <|gu (∀(e:AV),e∈Un iV l->e.cells.length=1) <|gu (0+(Un iV l).length<=9223372036854775807) <|gu ((0+(Un iV l).length) * 8<=140737488355328) <|some (.inr ([some (bK ([]++Un iV l) 1)],AV.sl 0 0 (0+(Un iV l).length)))
theorem cli_ct(l:List Int)(r:Ret)(h:Ac emT (N2 l) r):CT Uu 73 ([]) ([lI l]) r.1 r.2:=
 CT.mach (fn:=Tryz.f73) (c:=zB Tryz.f73) (S:=emS) (hd:=emH) Tryz.func73 (by kernel_rfl) (nL rfl)
  (fun s o ho=>match s,ho with
   | x,_=>x.elim)
  (fun o ho=>Scr.ok (X:=N2 l) ho mix (
 .rn 0 [] [] [] [] s2 <|
 .gu fun a0=>
 .rn 0 [] [] [] [] (al (u2 (al (ak a0)))) <|
 .gu fun a1=>
 .gu fun a2=>
 .gu fun a3=>
 .rt [] [] [] [] [1] [] (aj (ak (al (ak (u2 (aj (k2 (aj (show nat_lit 0=nat_lit 0 from rfl) (aj a1 (aj a2 a3)))) s2))))) t3)) (by kernel_rfl)) h
inductive FJ where | l0 (v0:Int) (v1:List Int)
def IL(q:Ak)(w:Int):FJ->St | .l0 v0 v1=>St.mk 39 [(1,iv w),(2,AV.ptr 0 0 0),(4,AV.ptr 1 0 0),(5,AV.ptr 2 0 0),(6,iv v0)] [some (bK [AV.agg [Ut (boL q.cl),Ut (Un iv q.bw),Ut (Un iv q.pe)]] 3),some (bK [AV.agg [AV.nils,AV.nils,AV.nils]] 3),some (Blk.mk [AV.agg [AV.sl 3 0 (boL q.cl).length,AV.sl 4 0 q.bw.length,AV.sl 5 0 v1.length]] 3 false true none),some (bK (boL q.cl) 1),some (bK (Un iv q.bw) 1),some (bK (Un iv v1) 1)]
def OP(q:Ak)(w:Int):Option (FJ⊕Ret):=gu (∀(e:AV),e∈boL q.cl->e.cells.length=1) <|gu ((boL q.cl).length<=9223372036854775807) <|gu ((boL q.cl).length * 1<=140737488355328) <|gu (∀(e:AV),e∈Un iV q.bw->e.cells.length=1) <|gu ((Un iV q.bw).length<=9223372036854775807) <|gu ((Un iV q.bw).length * 8<=140737488355328) <|some (.inl (.l0 ((0:Int)) ([])))
def HV(q:Ak)(w v0:Int)(v1:List Int):Option (FJ⊕Ret):=br (decide (v0<iN (Un iV q.pe).length)) (gu (0<=v0) <|el (q.pe) (v0.toNat) fun(x24:Int)=>br (x24 != w) (el (q.pe) (v0.toNat) fun(x33:Int)=>gu ((Un iV v1).length+[iV x33].length<=9223372036854775807) <|gu (((Un iV v1).length+[iV x33].length) * 8<=140737488355328) <|some (.inl (.l0 (i64.wrap (v0+1)) (v1++[x33])))) (some (.inl (.l0 (i64.wrap (v0+1)) v1)))) (some (.inr ([some (bK (boL q.cl) 1),some (bK (Un iV q.bw) 1),some (bK (Un iV v1) 1)],AV.agg [AV.sl 0 0 (boL q.cl).length,AV.sl 1 0 q.bw.length,AV.sl 2 0 v1.length])))
def rcpStep(q:Ak)(w:Int):FJ->Option (FJ⊕Ret) | .l0 v0 v1=>HV q w v0 v1
theorem rcp_ct(q:Ak)(w:Int)(r:Ret)(h:Ac (rcpStep q w) (OP q w) r):CT Uu 106 ([]) ([sgA q,.int .i64 w]) r.1 r.2:=
 CT.mach (fn:=Tryz.f106) (c:=zB Tryz.f106) (S:=(IL q w)) (hd:=FJ.ctorIdx) Tryz.func106 (by kernel_rfl) (nL rfl)
  (fun s o ho=>match s,ho with
 | .l0 v0 v1,ho=>Scr.ok (X:=HV q w v0 v1) ho mix (
 .rn 0 [] [] [] [] (al (u2 (u2 (u2 (u2 (al t3)))))) <|
 .br (fun a0=>
 .gu fun a1=>
 .el fun x24 a2=>
 .rn 0 [37] [(24,iv x24)] [] [] (aj a0 (al (u2 (u2 (u2 (aj (k2 (aj a1 (Af (f:=iv) a2))) (u2 (u2 (al t3))))))))) <|
 .br (fun a3=>
  .el fun x33 a4=>
  .gu fun a5=>
  .gu fun a6=>
  .lq [55] [(33,iv x33)] [] [] [] [0,1,2,3,4,7] [1,2,4,5,6] (up [] [(2,[AV.agg [AV.sl 3 0 (boL q.cl).length,AV.sl 4 0 q.bw.length,AV.sl 5 0 ((Un iv v1).length+[iv x33].length)]]),(5,Un iv v1++[iv x33])] (IL q w (.l0 (i64.wrap (v0+1)) (v1++[x33])))) (aj (aj a3 (aj (u2 (u2 (u2 (u2 (u2 (aj (k2 (aj a1 (Af (f:=iv) a4))) (u2 (u2 (aj (k2 (aj (show(Un iv v1).length=v1.length by simp) (aj (aj (show nat_lit 1=nat_lit 1 from rfl) (show 1<=[iv x33].length by simp)) (aj a5 a6)))) (u2 (al t3))))))))))) (al (u2 (u2 s2))))) (k2 (k5 (aj (al t4) t4)))) (by simp[up,upF,upV,upH,upB,IL,gL,boL,lI]))
 (fun a3=>
  .lp [54] [] [] [] [] [0,1,2,3,4,5] [1,2,4,5,6] (aj (aj a3 (al (u2 (u2 s2)))) (k2 (k5 (aj (al t4) t4))))))
 (fun a0=>
 .rt [36] [] [] [] [3,4,5] [] (aj (aj a0 (al (u2 (al (k2 n11))))) (aj t4 t4)))) (by kernel_rfl)
  )
  (fun o ho=>Scr.ok (X:=OP q w) ho mix (
 .rn 0 [] [] [] [] (al (u2 t2)) <|
 .gu fun a0=>
 .gu fun a1=>
 .gu fun a2=>
 .gu fun a3=>
 .gu fun a4=>
 .gu fun a5=>
 .lq [] [] [] [] [(3005,1)] [0,1,4,2,3,5] [1,2,4,5,6] (up [] [(2,[AV.agg [AV.sl 3 0 (boL q.cl).length,AV.sl 4 0 (Un iv q.bw).length,AV.sl 5 0 0]])] (IL q w (.l0 ((0:Int)) ([])))) (aj (aj (u2 (u2 (aj (ak (aj a0 (aj a1 a2))) (u2 (u2 (aj (ak (aj a3 (aj a4 a5))) (aj t3 (ak (al (k2 n11)))))))))) s2) (k2 (k5 (aj (al t4) t4)))) (by simp[up,upF,upV,upH,upB,IL,gL,boL,lI])) (by kernel_rfl)) h
def OE(n:Aa):Option (Empty⊕Ret):=gu (RwV n) <|br (Db n != 0) (some (.inr ([],AV.tup [AV.agg [AV.nils,AV.nils,AV.nils],iV (Db n)]))) (gu (0<=Bs n) <|gu (1 * Bs n<=281474976710656) <|gu (Bs n<=9223372036854775807) <|gu (0<=Bs n/\Bs n<=48) <|gu (∀(blk:Blk),blk∈[bK (Un iV (Uo (Bs n).toNat (-1))) 1]->A7 blk) <|some (.inr ([],AV.tup [AV.agg [Ut (Uo (Bs n).toNat (bV false)),Ut (Un iV (Uo (Bs n).toNat (-1))),AV.nils],iV 0])))
theorem n14_ct(n:Aa)(r:Ret)(h:Ac emT (OE n) r):CT Uu 49 ([]) ([Aj n]) r.1 r.2:=
 CT.mach (fn:=Tryz.f49) (c:=zB Tryz.f49) (S:=emS) (hd:=emH) Tryz.func49 (by kernel_rfl) (nL rfl)
  (fun s o ho=>match s,ho with
   | x,_=>x.elim)
  (fun o ho=>Scr.ok (X:=OE n) ho mix (
 .rn 0 [] [] [] [] (al (u2 t3)) <|
 .gu fun a0=>
 have c0:=NZ a0;
 .rn 1 [] [] [(8,hK c0 [] [])] [] (aj (u2 (aj (ak (aj t9 (al (c0)))) (u2 (u2 (u2 (u2 s2)))))) (al (u2 s2))) <|
 .br (fun a1=>
 .rt [25] [] [] [] [] [] (aj (aj a1 (al (ak (u2 (aj (k2 n11) s2))))) (al (aj t4 t2))))
 (fun a1=>
 .gu fun a2=>
 .gu fun a3=>
 .gu fun a4=>
 .gu fun a5=>
 .gu fun a6=>
 have c1:=rep_c (Bs n) a5;
 .rt [24] [] [(19,hK c1 [] [3])] [] [] [2,4] (aj (aj a1 (al (u2 (aj (k2 (aj a2 (aj (show Bs n<=Bs n by omega) (aj a3 a4)))) (ak (u2 (aj (k2 (aj (show nat_lit 1=nat_lit 1 from rfl) (ak (aj (c1) a6)))) (aj t3 (aj (k2 n11) t2))))))))) (al (aj (aj (show(Bs n).toNat=(Uo (Bs n).toNat (bV false)).length by simp) (aj (show(Bs n).toNat=(Un iv (Uo (Bs n).toNat (-1))).length by simp) t2)) t2))))) (by kernel_rfl)) h
def wo(l:List Int)(x:Int):List Int:=l.filter (fun y=>y != x)
theorem N6{l:List Int}{x:Int}{i:Nat}(h:i<l.length):wo (l.take (i+1)) x=wo (l.take i) x++(if (l.getD i 0 != x)=true then [l.getD i 0] else []):=by unfold wo;rw[List.take_add_one,Az 0 h,List.filter_append];congr 1;show List.filter _ [l.getD i 0]=_;rw[List.filter_cons];rfl
theorem wo_len(l:List Int)(x:Int):(wo l x).length<=l.length:=List.length_filter_le _ _
theorem Mo(cl:List Bool)(bw pe:List Int)(w:Int)(h1:cl.length<=1000000)(h2:bw.length<=1000000)(h3:pe.length<=1000000):
  CT Uu 106 [] [sgA ⟨cl,bw,pe⟩,.int .i64 w] [some (Blk.mk (boL cl) 1 true true none),some (Blk.mk (bw.map (AV.int .i64)) 1 true true none),some (Blk.mk ((wo pe w).map (AV.int .i64)) 1 true true none)] (.agg [.sl 0 0 (boL cl).length,.sl 1 0 bw.length,.sl 2 0 (wo pe w).length]):=by
 refine rcp_ct ⟨cl,bw,pe⟩ w ([_,_,_],_) ?_;have hL:=A9 cl;unfold OP;rw[Ab (J7 _),Ab (by rw[hL];show cl.length<=_;omega),Ab (by rw[hL];show cl.length * 1<=_;omega),Ab (Gf _),Ab (by rw[Tw];show bw.length<=_;omega),Ab (by rw[Tw];show bw.length * 8<=_;omega)];refine Br (fun i=>FJ.l0 (i:Int) (wo (pe.take i) w)) pe.length (fun i hi h=>?_) ?_
 .refine .to (show HV ⟨cl,bw,pe⟩ w i _=_ from ?_) h;have hw:=wo_len (pe.take i) w;rw[TY] at hw;unfold HV;simp only;rw[C0 0 hi,N6 hi];cases hx:pe.getD i 0 != w with
  | false=>rw[Ad rfl,Ts (by simp),List.append_nil,zW i (by omega)]
  | true=>rw[Ag rfl,elG 0 hi,Ab (by simp only[Tw,Ua,Ub];omega),Ab (by simp only[Tw,Ua,Ub];omega),Tq rfl,zW i (by omega)]
 .refine .to (show HV ⟨cl,bw,pe⟩ w pe.length _=_ from ?_) (.ret _);unfold HV;simp only;rw[AQ,List.take_length]
theorem On(l:List Bool)(hl:l.length<=1000000):CT Uu 45 [] [.lst (boL l)] [some (Blk.mk (boL l) 1 true true none)] (.sl 0 0 (boL l).length):=by
 have hL:=A9 l;by_cases h:l=[]
 .subst h;exact cl55_e
 refine clb_ct l ([_],_) (.val ?_);unfold Ln;rw[Ab (fun e=>h (by unfold boL at e;exact List.map_eq_nil_iff.1 e)),Ab (J7 _),Ab (by omega),Ab (by omega),List.nil_append,TI]
theorem OD(l:List Int)(hl:l.length<=1000000):CT Uu 73 [] [lI l] [some (Blk.mk (l.map (AV.int .i64)) 1 true true none)] (.sl 0 0 l.length):=by
 by_cases h:l=[]
 .subst h;exact cl97_e
 refine cli_ct l ([_],_) (.val ?_);unfold N2;rw[Ab (fun e=>h (List.map_eq_nil_iff.1 e)),Ab (Gf _),Ab (by rw[Tw];omega),Ab (by rw[Tw];omega),List.nil_append,TI,Tw]
theorem IJ{n:Aa}(cl:List Bool)(bw pe:List Int)(hrw:RwV n):CT Uu 44 [] [Aj n,sgA ⟨cl,bw,pe⟩] [] (.bool (BB n ⟨cl,bw,pe⟩)):=by
 generalize hs:(⟨cl,bw,pe⟩:Ak)=s;refine sva_ct n s ([],_) ?_;unfold MN BB Db Bs;rw[Ab hrw];cases hv:Bc n with
 | false=>exact .ret _
 | true=>
 have hv:=BH.1 hv;obtain⟨h48,hnb⟩:=Im hv;unfold FO;rw[Tq rfl,Tq rfl,Ad (by rfl),A9,Tw,Tw,Tw,Bool.true_and];by_cases h1:s.cl.length=Ao n
 case neg=>rw[Ag (Ui.2 (by simp only[iN];omega)),AD h1];exact .ret _
 rw[Ad (by rw[h1];simp),AC h1,Bool.true_and];by_cases h2:s.bw.length=Ao n
 case neg=>rw[Ag (Ui.2 (by simp only[iN];omega)),AD h2];exact .ret _
 rw[Ad (by rw[h2];simp),AC h2,Bool.true_and];by_cases h3:n.bs.length<s.pe.length
 .rw[Ag (AC (by simp only[iN];omega))];have:(fnd (bdP n.bs.length s) 0 s.pe.length).isNone=false:=by
   cases hf:fnd (bdP n.bs.length s) 0 s.pe.length with
   | some i=>rfl
   | none=>
    have:=MI (nb:=n.bs.length) (s:=s) (TE _) fun j hj=>IX hf j (TF _) (by omega)
    omega
  rw[this,Bool.and_false];exact .ret _
 rw[Ad (AD (by simp only[iN];omega))];refine(KD (fun i=>DZ.l0 (i:Int)) s.bw.length (bdW s) (rF:=fun _=>(([],.bool false):Ret)) (r:=([],.bool (fnd (bdP n.bs.length s) 0 s.pe.length).isNone)) (fun i hi _ hp=>?_) (fun i x hi _ hp hx=>?_) (fun _=>?_)).res (by cases fnd (bdW s) 0 s.bw.length<;>rfl)
 .refine .to (show EI n s i=_ from ?_) (.ret _);unfold EI;unfold bdW at hp;rw[C0 0 hi];cases hd1:decide (s.bw.getD i 0 < -1) with
  | true=>rw[Ag rfl]
  | false=>
   rw[hd1,Tm] at hp;rw[Ad rfl];cases hd2:decide (8<=s.bw.getD i 0) with
   | true=>rw[Ag rfl]
   | false=>rw[hd2,Tm,TB] at hp;rw[Ad rfl,Ag hp.1,elG true (show i<s.cl.length by omega),Ag hp.2]
 .refine .to (show EI n s i=_ from ?_) hx;unfold EI;unfold bdW at hp;simp only[Bool.or_eq_false_iff] at hp;rw[C0 0 hi,Ad hp.1,Ad hp.2.1,zW i (by omega)];cases h0:decide (0<=s.bw.getD i 0) with
  | false=>rw[Ad rfl]
  | true=>have hq:=hp.2.2;rw[h0,Bool.true_and] at hq;rw[Ag rfl,elG true (show i<s.cl.length by omega),Ad hq]
 .refine .to (show EI n s s.bw.length=_ from ?_) ?_ (y:=some (.inl (.l1 ((0:Nat):Int))))
  .unfold EI;rw[AQ];rfl
  refine(KD (fun i=>DZ.l1 (i:Int)) s.pe.length (bdP n.bs.length s) (rF:=fun _=>(([],.bool false):Ret)) (r:=([],.bool true)) (fun i hi hj hp=>?_) (fun i x hi hj hp hx=>?_) (fun _=>?_)).res (by cases fnd (bdP n.bs.length s) 0 s.pe.length<;>rfl)
  .refine .to (show EN n s i=_ from ?_) (.ret _);unfold EN;unfold bdP at hp;rw[C0 0 hi];by_cases hd1:s.pe.getD i 0<0
   .rw[Ag (AC hd1)]
   rw[AD hd1,Tm] at hp;rw[Ad (AD hd1)];by_cases hd2:(n.bs.length:Int)<=s.pe.getD i 0
   .rw[Ag (AC (by rw[Tw];exact hd2))]
   rw[AD hd2,Tm] at hp;rw[Ad (AD (by rw[Tw];exact hd2)),Ab (by omega),Ar (Az true (show(s.pe.getD i 0).toNat<s.cl.length by omega))];cases hd3:s.cl.getD (s.pe.getD i 0).toNat true with
   | true=>rw[Ag rfl]
   | false=>rw[hd3,Tm] at hp;rw[Ad rfl,Ab (Gf _),Ab (by simp only[iN,Tw];omega),Kw,Ab (by rw[TY];omega),Ag hp]
  .refine .to (show EN n s i=_ from ?_) hx;unfold EN;unfold bdP at hp;simp only[Bool.or_eq_false_iff,decide_eq_false_iff_not] at hp;rw[C0 0 hi,Ad (AD hp.1),Ad (AD (by rw[Tw];exact hp.2.1)),Ab (by omega),Ar (Az true (show(s.pe.getD i 0).toNat<s.cl.length by omega)),Ad hp.2.2.1,Ab (Gf _),Ab (by simp only[iN,Tw];omega),Kw,Ab (by rw[TY];omega),Ad hp.2.2.2,zW i (by omega)]
  .refine .to (show EN n s s.pe.length=_ from ?_) (.ret _);unfold EN;rw[AQ]
theorem NC{n:Aa}(cl:List Bool)(bw pe:List Int)(hrw:RwV n):CT Uu 118 [] [Aj n,sgA ⟨cl,bw,pe⟩] [] (.bool (BB n ⟨cl,bw,pe⟩)):=by
 refine r20v_ct n ⟨cl,bw,pe⟩ ([],_) (.val ?_);unfold Ot BB;rw[Ab hrw];cases hv:Bc n with
 | false=>rfl
 | true=>rw[Ag rfl,Ab (BH.1 hv)];rfl
def nsO(n:Aa):Ak:=⟨Uo (Ao n) false,Uo (Ao n) (-1),[]⟩
def nsE(n:Aa):Int:=if Bc n=true then 0 else 20
def nsS(n:Aa):Ak:=if Bc n=true then nsO n else ⟨[],[],[]⟩
theorem Rd(k:Nat):Uo k (AV.bool false)=boL (Uo k false):=by unfold boL;rw[List.map_replicate]
theorem n14_c{n:Aa}(hrw:RwV n):CT Uu 49 [] [Aj n] [] (.tup [sgA (nsS n),.int .i64 (nsE n)]):=by
 have h:=n14_ct n;unfold OE Db Bs at h;unfold nsS nsE;cases hv:Bc n with
 | false=>rw[hv] at h;exact CT.w2 (h ([],_) (.val (by rw[Ab hrw];rfl)))
 | true=>
  have h48:=Im (BH.1 hv);rw[hv] at h;have k:=CT.w2 (h ([],.tup [.agg [.lst (Uo (Ao n) (AV.bool false)),.lst (Un (AV.int .i64) (Uo (Ao n) (-1))),.nils],.int .i64 0]) (.val (by
   rw[Ab hrw,Tq rfl,Tq rfl,Ad (by rfl),Ab (by omega),Ab (by omega),Ab (by omega),Ab (by omega)];rw[Ab (fun blk hb=>by
    rw[Tj.1 hb];intro e he c hc;obtain⟨x,_,rfl⟩:=T1.1 he;rw[Tj.1 hc];rfl)]
   rfl)))
  rw[Rd] at k;exact k
def ansEn(q:Int):Option (Empty⊕Ret):=some (.inr ([],AV.agg [iV q,iV 0]))
theorem ans_ct(q:Int)(r:Ret)(h:Ac emT (ansEn q) r):CT Uu 56 ([]) ([.int .i64 q]) r.1 r.2:=
 CT.mach (fn:=Tryz.f56) (c:=zB Tryz.f56) (S:=emS) (hd:=emH) Tryz.func56 (by kernel_rfl) (nL rfl)
  (fun s o ho=>match s,ho with
   | x,_=>x.elim)
  (fun o ho=>Scr.ok (X:=ansEn q) ho mix (
 .rt [] [] [] [] [] [] (aj (u2 (al (u2 (u2 (al (k2 n11)))))) (al t3))) (by kernel_rfl)) h
def M8(q:Int):Option (Empty⊕Ret):=br (q==3) (some (.inr ([],iV 2))) (br (q==4) (some (.inr ([],iV 3))) (some (.inr ([],iV 5))))
theorem aft_ct(q:Int)(r:Ret)(h:Ac emT (M8 q) r):CT Uu 67 ([]) ([.int .i64 q]) r.1 r.2:=
 CT.mach (fn:=Tryz.f67) (c:=zB Tryz.f67) (S:=emS) (hd:=emH) Tryz.func67 (by kernel_rfl) (nL rfl)
  (fun s o ho=>match s,ho with
   | x,_=>x.elim)
  (fun o ho=>Scr.ok (X:=M8 q) ho mix (
 .rn 2 [] [] [] [] (u2 (aj s2 (al (u2 s2)))) <|
 .br (fun a0=>
 .rt [9] [] [] [] [] [] (aj (aj a0 s2) t2))
 (fun a0=>
 .rn 0 [8] [] [] [] (aj a0 (al (u2 s2))) <|
 .br (fun a1=>
  .rt [13] [] [] [] [] [] (aj (aj a1 s2) t2))
 (fun a1=>
  .rt [12] [] [] [] [] [] (aj (aj a1 s2) t2)))) (by kernel_rfl)) h
theorem AR(q:Int):CT Uu 56 [] [.int .i64 q] [] (.agg [.int .i64 q,.int .i64 0]):=ans_ct q ([],_) (.val rfl)
@[irreducible] def BG(q:Int):Int:=match q==3 with | true=>2 | false=>match q==4 with | true=>3 | false=>5
theorem Jm(q:Int):CT Uu 67 [] [.int .i64 q] [] (.int .i64 (BG q)):=by
 refine aft_ct q ([],_) (.val ?_);unfold M8 BG;cases q==3 with
 | true=>rfl
 | false=>cases q==4 with
  | true=>rfl
  | false=>rfl
theorem aftZ_rng(q:Int):0<=BG q/\BG q<=5:=by unfold BG;split;omega;split<;>omega
inductive EU where | l0 (v0:Int) (v1:List Bool)
def Nc(q:Ak):EU->St | .l0 v0 v1=>St.mk 23 [(1,AV.ptr 0 0 0),(3,AV.sl 1 0 (boL q.cl).length),(4,iv v0)] [some (bK [AV.agg [Ut (boL q.cl),Ut (Un iv q.bw),Ut (Un iv q.pe)]] 3),some (bK (Un bV v1) 1)]
def Ll(q:Ak):Option (EU⊕Ret):=gu (∀(e:AV),e∈boL q.cl->e.cells.length=1) <|gu ((boL q.cl).length<=9223372036854775807) <|gu ((boL q.cl).length * 1<=140737488355328) <|some (.inl (.l0 ((0:Int)) (q.cl)))
def H0(q:Ak)(v0:Int)(v1:List Bool):Option (EU⊕Ret):=br (decide (v0<iN (Un iV q.pe).length)) (gu (0<=v0) <|el (q.pe) (v0.toNat) fun(x19:Int)=>gu (0<=x19) <|gu (x19<iN (boL q.cl).length) <|gu ((0+x19.toNat).succ.le (Un bV v1).length) <|some (.inl (.l0 (i64.wrap (v0+1)) (v1.set (0+x19.toNat) true)))) (some (.inr ([some (bK (Un bV v1) 1)],AV.sl 0 0 (boL q.cl).length)))
def ceKStep(q:Ak):EU->Option (EU⊕Ret) | .l0 v0 v1=>H0 q v0 v1
theorem ceK_ct(q:Ak)(r:Ret)(h:Ac (ceKStep q) (Ll q) r):CT Uu 108 ([]) ([sgA q]) r.1 r.2:=
 CT.mach (fn:=Tryz.f108) (c:=zB Tryz.f108) (S:=(Nc q)) (hd:=EU.ctorIdx) Tryz.func108 (by kernel_rfl) (nL rfl)
  (fun s o ho=>match s,ho with
 | .l0 v0 v1,ho=>Scr.ok (X:=H0 q v0 v1) ho mix (
 .rn 0 [] [] [] [] (al (u2 (u2 (u2 (u2 (al t3)))))) <|
 .br (fun a0=>
 .gu fun a1=>
 .el fun x19 a2=>
 .gu fun a3=>
 .gu fun a4=>
 .gu fun a5=>
 .lq [25] [(19,iv x19)] [] [] [] [0,1] [1,3,4] (up [] [(1,(Un bV v1).set (0+x19.toNat) (bV true))] (Nc q (.l0 (i64.wrap (v0+1)) (v1.set (0+x19.toNat) true)))) (aj (aj a0 (aj (u2 (u2 (u2 (u2 (aj (k2 (aj a1 (Af (f:=iv) a2))) (u2 (aj (k2 (aj a3 a4)) (al (ak a5))))))))) (al (u2 (u2 s2))))) t6) (by simp[up,upF,upV,upH,upB,Nc,gL,boL,lI]))
 (fun a0=>
 .rt [24] [] [] [] [1] [] (aj (aj a0 (al (u2 s2))) t3))) (by kernel_rfl)
  )
  (fun o ho=>Scr.ok (X:=Ll q) ho mix (
 .rn 0 [] [] [] [] (al (u2 t2)) <|
 .gu fun a0=>
 .gu fun a1=>
 .gu fun a2=>
 .lp [] [] [] [] [] [0,1] [1,3,4] (aj (aj (u2 (u2 (aj (ak (aj a0 (aj a1 a2))) s2))) s2) t6)) (by kernel_rfl)) h
inductive F1 where | l0 (v0:List Int) (v1:Int)
def Ik(l:List UsD):F1->St | .l0 v0 v1=>St.mk 28 [(0,Ut (Un usA l)),(3,AV.sl 0 0 v0.length),(4,iv v1)] [some (bK (Un iv v0) 1)]
def hoKEn(l:List UsD):Option (F1⊕Ret):=some (.inl (.l0 ([]) ((0:Int))))
def Ia(l:List UsD)(v0:List Int)(v1:Int):Option (F1⊕Ret):=br (decide (v1<iN (Un usA l).length)) (gu (0<=v1) <|el l (v1.toNat) fun(x13:UsD)=>br (Bk x13.s) (el l (v1.toNat) fun(x19:UsD)=>gu ((Un iV v0).length+[iV x19.hm].length<=9223372036854775807) <|gu (((Un iV v0).length+[iV x19.hm].length) * 8<=140737488355328) <|some (.inl (.l0 (v0++[x19.hm]) (i64.wrap (v1+1))))) (gu ((Un iV v0).length+1<=9223372036854775807) <|gu (((Un iV v0).length+1) * 8<=140737488355328) <|some (.inl (.l0 (v0++[-2]) (i64.wrap (v1+1)))))) (some (.inr ([some (bK (Un iV v0) 1)],AV.sl 0 0 v0.length)))
def QK(l:List UsD):F1->Option (F1⊕Ret) | .l0 v0 v1=>Ia l v0 v1
theorem hoK_ct(l:List UsD)(r:Ret)(h:Ac (QK l) (hoKEn l) r):CT Uu 116 ([]) ([.lst (l.map usA)]) r.1 r.2:=
 CT.mach (fn:=Tryz.f116) (c:=zB Tryz.f116) (S:=(Ik l)) (hd:=F1.ctorIdx) Tryz.func116 (by kernel_rfl) (nL rfl)
  (fun s o ho=>match s,ho with
 | .l0 v0 v1,ho=>Scr.ok (X:=Ia l v0 v1) ho mix (
 .rn 0 [] [] [] [] (al (u2 (u2 (u2 (al t3))))) <|
 .br (fun a0=>
 .gu fun a1=>
 .el fun x13 a2=>
 have c0:=Lp (x13.s) (x13.lv) (x13.hm);
 .rn 0 [17] [(13,usA x13)] [(15,hK c0 [] [])] [] (aj a0 (al (u2 (u2 (aj (k2 (aj a1 (Af (f:=usA) a2))) (u2 (al (ak (aj (k5 t9) (al (c0))))))))))) <|
 .br (fun a3=>
  .el fun x19 a4=>
  .gu fun a5=>
  .gu fun a6=>
  .lq [31] [(19,usA x19)] [] [] [] [2] [0,3,4] (up [(3,AV.sl 0 0 ((Un iv v0).length+[iv x19.hm].length))] [(0,Un iv v0++[iv x19.hm])] (Ik l (.l0 (v0++[x19.hm]) (i64.wrap (v1+1))))) (aj (aj a3 (aj (u2 (u2 (u2 (aj (k2 (aj a1 (Af (f:=usA) a4))) (u2 (u2 (u2 (aj (k2 (aj (show(Un iv v0).length=v0.length by simp) (aj (aj (show nat_lit 1=nat_lit 1 from rfl) (show 1<=[iv x19.hm].length by simp)) (aj a5 a6)))) s2)))))))) (al (u2 (u2 s2))))) t5) (by simp[up,upF,upV,upH,upB,Ik,gL,boL,lI,usA]))
 (fun a3=>
  .gu fun a4=>
  .gu fun a5=>
  .lq [30] [] [] [] [] [2] [0,3,4] (up [(3,AV.sl 0 0 ((Un iv v0).length+1))] [(0,Un iv v0++[iv (-2)])] (Ik l (.l0 (v0++[-2]) (i64.wrap (v1+1))))) (aj (aj a3 (aj (u2 (ak (aj (k2 (aj (show(Un iv v0).length=v0.length by simp) (aj (aj (show nat_lit 1=nat_lit 1 from rfl) (show nat_lit 1<=nat_lit 1 from(by first | exact nL rfl | decide))) (aj a4 a5)))) s2))) (al (u2 (u2 s2))))) t5) (by simp[up,upF,upV,upH,upB,Ik,gL,boL,lI,usA])))
 (fun a0=>
 .rt [16] [] [] [] [0] [] (aj (aj a0 (al (u2 s2))) t3))) (by kernel_rfl)
  )
  (fun o ho=>Scr.ok (X:=hoKEn l) ho mix (
 .lp [] [] [] [] [(3,1)] [0] [0,3,4] (aj (u2 (u2 s2)) t5)) (by kernel_rfl)) h
theorem M0(s:Ak)(hl:s.cl.length<=1000000)(hp:s.pe.length<=1000000)(hb:∀b∈s.pe,0<=b/\b<(s.cl.length:Int)):CT Uu 108 [] [sgA s] [some (Blk.mk (boL (AB s)) 1 true true none)] (.sl 0 0 (AB s).length):=by
 refine ceK_ct s ([_],_) ?_;have hL:=A9 s.cl;unfold Ll;rw[Ab (J7 _),Ab (by omega),Ab (by omega)];refine NI (L:=fun i b=>EU.l0 (i:Int) b) (f:=fun c b=>c.set b.toNat true) (l:=s.pe) s.cl (fun i x hx h=>?_) ?_
 .have hlen:=Kb (s.pe.take i) s.cl;have h2:=hb x (Tx hx);have hi:=(Tv.1 hx).1;generalize (s.pe.take i).foldl (fun c b=>c.set b.toNat true) s.cl=c at *;refine .to (show H0 s i c=_ from ?_) h;unfold H0;rw[AZ hx,Ab h2.1,Ab (by simp only[iN];omega),Ab (show Nat.le _ _ from(by simp only[Tw];show 0+x.toNat+1<=_;omega)),zW i (by omega),TI]
 .refine .to (show H0 s s.pe.length (AB s)=_ from ?_) (.ret _);unfold H0;rw[AQ,hL,DT];rfl
theorem hoK_c(l:List UsD)(hl:l.length<=1000000):CT Uu 116 [] [.lst (l.map usA)] [some (Blk.mk ((hoL l).map (AV.int .i64)) 1 true true none)] (.sl 0 0 (hoL l).length):=by
 refine hoK_ct l ([_],_) ?_;rw[PV];have key:∀(d i:Nat),i+d=l.length->Ac (QK l) (some (.inl (.l0 ((l.take i).map hoF) (i:Int)))) (([some (Blk.mk ((l.map hoF).map (AV.int .i64)) 1 true true none)],.sl 0 0 (l.map hoF).length):Ret):=by
  intro d;induction d with
  | zero=>
   intro i hi;obtain rfl:i=l.length:=by omega
   refine .to (show Ia l _ (l.length:Nat)=_ from rfl) ?_;unfold Ia;rw[AQ,List.take_length];exact .ret _
  | succ d ih=>
   intro i hi;have hx:l[i]?=some l[i]:=Tt (by omega);have e:(l.take (i+1)).map hoF=(l.take i).map hoF++[hoF l[i]]:=by rw[List.take_add_one,hx,TG];rfl
   have:=ih (i+1) (by omega);rw[e] at this;have hl2:(l.take i).length<=i:=by rw[TY];omega
   refine .to (show Ia l _ (i:Nat)=_ from rfl) ?_;unfold Ia;rw[AZ hx,Bj i (by omega),TC];cases q:Bk l[i].s with
   | true=>rw[Ag rfl,Ar hx,Ab (by simp only[Tw,T9];omega),Ab (by simp only[Tw,T9];omega)];rw[show hoF l[i]=l[i].hm by unfold hoF;rw[Tq q]] at this;exact this
   | false=>rw[Ad rfl,Ab (by simp only[Tw,T9];omega),Ab (by simp only[Tw,T9];omega)];rw[show hoF l[i] = -2 by unfold hoF;rw[Ts (by rw[q];simp)]] at this;exact this
 exact key l.length 0 (by omega)
inductive E0 where | l0 (v0:Bool) (v1:Au) (v2:Int)
def cOpSt(n:Aa)(sh:List Bool)(sp:Int):E0->St | .l0 v0 v1 v2=>St.mk 62 [(1,Ut (boL sh)),(9,AV.ptr 0 0 0),(10,bV v0),(45,iv v1.k),(46,iv v2)] [some (bK [sA v1] 6)]
def LK(n:Aa)(sh:List Bool)(sp:Int):Option (E0⊕Ret):=gu (RwV n) <|br (csE n sp != 0) (some (.inr ([],AV.tup [bV false,iV (csE n sp)]))) (gu (Aq n) <|br (iN (boL sh).length != iN (Ao n)) (some (.inr ([],AV.tup [bV false,iV 19]))) (gu (0<=sp) <|el (n.ss) (sp.toNat) fun(x28:Au)=>gu (0<=x28.i) <|el (sh) (x28.i.toNat) fun(x33:Bool)=>br (!x33) (gu (0<=x28.o) <|el (sh) (x28.o.toNat) fun(x40:Bool)=>some (.inl (.l0 (!x40) x28 ((0:Int))))) (some (.inl (.l0 (false) x28 ((0:Int)))))))
def FW(n:Aa)(sh:List Bool)(sp:Int)(v0:Bool)(v1:Au)(v2:Int):Option (E0⊕Ret):=br (decide (v2<v1.k)) (br v0 (gu (0<=i64.wrap (v1.b+v2)) <|el (sh) ((i64.wrap (v1.b+v2)).toNat) fun(x56:Bool)=>some (.inl (.l0 (!x56) v1 (i64.wrap (v2+1))))) (some (.inl (.l0 (false) v1 (i64.wrap (v2+1)))))) (some (.inr ([],AV.tup [bV v0,iV 0])))
def PP(n:Aa)(sh:List Bool)(sp:Int):E0->Option (E0⊕Ret) | .l0 v0 v1 v2=>FW n sh sp v0 v1 v2
theorem cOp_ct(n:Aa)(sh:List Bool)(sp:Int)(r:Ret)(h:Ac (PP n sh sp) (LK n sh sp) r):CT Uu 76 ([]) ([Aj n,.lst (boL sh),.int .i64 sp]) r.1 r.2:=
 CT.mach (fn:=Tryz.f76) (c:=zB Tryz.f76) (S:=(cOpSt n sh sp)) (hd:=E0.ctorIdx) Tryz.func76 (by kernel_rfl) (nL rfl)
  (fun s o ho=>match s,ho with
 | .l0 v0 v1 v2,ho=>Scr.ok (X:=FW n sh sp v0 v1 v2) ho mix (
 .rn 0 [] [] [] [] (al (al t3)) <|
 .br (fun a0=>
 .rn 0 [95] [] [] [] (aj a0 (al (u2 s2))) <|
 .br (fun a1=>
  .gu fun a2=>
  .el fun x56 a3=>
  .lp [101] [(56,bV x56)] [] [] [] [0] [1,9,10,45,46] (aj (aj (u2 (u2 (ag a1 (ag a1 (ag a1 (ag a1 (aj (aj a1 t3) (aj (aj a1 (k2 (aj a2 (Af (f:=bV) a3)))) (ag a1 (ag a1 (ag a1 s2))))))))))) (al (u2 s2))) t7))
 (fun a1=>
  .lp [100] [] [] [] [] [0] [1,9,10,45,46] (aj (aj (u2 (u2 (aj a1 (aj a1 (aj a1 (aj a1 (aj a1 (aj a1 (aj a1 (aj a1 (ag a1 s2))))))))))) (al (u2 s2))) t7)))
 (fun a0=>
 .rt [94] [] [] [] [] [] (aj (aj a0 (al (u2 (u2 t2)))) (al t3)))) (by kernel_rfl)
  )
  (fun o ho=>Scr.ok (X:=LK n sh sp) ho mix (
 .rn 0 [] [] [] [] (al (u2 t3)) <|
 .gu fun a0=>
 have c0:=R2 a0 (sp);
 .rn 1 [] [] [(14,hK c0 [] [])] [] (aj (u2 (u2 (aj (k2 (aj t9 (ak (al (c0))))) s2))) (al (u2 (u2 s2)))) <|
 .br (fun a1=>
 .rt [31] [] [] [] [] [] (aj (aj a1 (al (u2 (ak s2)))) (al t3)))
 (fun a1=>
 .gu fun a2=>
 have c1:=Nl a2;
 .rn 0 [30] [] [(23,hK c1 [] [])] [] (aj a1 (al (u2 (u2 (u2 (aj (ak (aj t9 (al (c1)))) (aj t3 s2))))))) <|
 .br (fun a3=>
  .rt [39] [] [] [] [] [] (aj (aj a3 (al t3)) (al t3)))
 (fun a3=>
  .gu fun a4=>
  .el fun x28 a5=>
  .rn 0 [38] [(28,sA x28)] [] [] (aj a3 (al (u2 (u2 (u2 (aj (k2 (aj a4 (Af (f:=sA) a5))) (u2 (ak (al (k2 n11)))))))))) <|
  .gu fun a6=>
  .el fun x33 a7=>
  .br (fun a8=>
  .gu fun a9=>
  .el fun x40 a10=>
  .lp [73] [(33,bV x33),(40,bV x40)] [] [] [] [1] [1,9,10,45,46] (aj (aj (u2 (u2 (u2 (aj (k2 (aj a6 (Af (f:=bV) a7))) (u2 (u2 (u2 (ag a8 (ag a8 (ag a8 (aj (aj a8 (k2 (aj a9 (Af (f:=bV) a10)))) (ag a8 (ag a8 (ag a8 s2)))))))))))))) (al (u2 (u2 t2)))) t7))
  (fun a8=>
  .lp [72] [(33,bV x33)] [] [] [] [1] [1,9,10,45,46] (aj (aj (u2 (u2 (u2 (aj (k2 (aj a6 (Af (f:=bV) a7))) (u2 (u2 (u2 (aj a8 (aj a8 (aj a8 (aj a8 (aj a8 (aj a8 (ag a8 s2)))))))))))))) (al (u2 (u2 t2)))) t7))))) (by kernel_rfl)) h
def cOB(n:Aa)(sh:List Bool)(sp:Int):Bool:=Bc n&&decide (0<=sp)&&decide (sp<n.ss.length)&&decide (sh.length=Ao n)&&opB n sh sp
def cOE(n:Aa)(sh:List Bool)(sp:Int):Int:=if csE n sp=0 then (if sh.length=Ao n then 0 else 19) else csE n sp
def shB(sh:List Bool)(s:Au)(j:Nat):Bool:=sh.getD (s.b+(j:Int)).toNat false
theorem fnd_or{p:Nat->Bool}:∀(k i:Nat),(fnd p i (k+1)).isSome=((fnd p i k).isSome||p (i+k)):=by
 intro k;induction k with
 | zero=>intro i;simp only[fnd,Tg];cases p i<;>rfl
 | succ k ih=>
  intro i;have h:=ih (i+1);rw[show i+(k+1)=i+1+k by omega];show(fnd p i ((k+1)+1)).isSome=((fnd p i (k+1)).isSome||p (i+1+k));unfold fnd;cases p i with
  | true=>rfl
  | false=>exact h
def opJ(sh:List Bool)(s:Au)(j:Nat):Bool:= !(sh.getD s.i.toNat false)&&!(sh.getD s.o.toNat false)&&!(fnd (shB sh s) 0 j).isSome
theorem opJ_succ(sh:List Bool)(s:Au)(j:Nat):opJ sh s (j+1)=(opJ sh s j&&!shB sh s j):=by unfold opJ;rw[fnd_or,TI];cases sh.getD s.i.toNat false<;>cases sh.getD s.o.toNat false<;>cases (fnd (shB sh s) 0 j).isSome<;>cases shB sh s j<;>rfl
theorem opJ_end(sh:List Bool)(s:Au):opJ sh s s.k.toNat=IW sh s:=rfl
theorem Nm{sh:List Bool}{c:Int}(h0:0<=c)(h1:c<sh.length):sh[c.toNat]?=some (sh.getD c.toNat false):=by
 have hl:c.toNat<sh.length:=by omega
 rw[Tu,Tt hl];rfl
theorem Mf{n:Aa}(hrw:RwV n)(sh:List Bool)(sp:Int):CT Uu 76 [] [Aj n,.lst (boL sh),.int .i64 sp] [] (.tup [.bool (cOB n sh sp),.int .i64 (cOE n sh sp)]):=by
 refine cOp_ct n sh sp ([],_) ?_;unfold LK cOB cOE;rw[Ab hrw];by_cases h:csE n sp=0
 .obtain⟨hv,h0,h1⟩:=csE_zero h;obtain⟨i,rfl⟩:∃i:Nat,sp=i:=⟨sp.toNat,by omega⟩;obtain⟨s,hs⟩:∃s,n.ss[i]?=some s:=⟨_,Tt (by omega)⟩;have e:=hv.ends hs;have sb:=hv.sb hs;rw[Ad (by simp[h]),Ab hv,Tq h,BH.2 hv,AC h0,AC h1];by_cases hl:sh.length=Ao n
  .rw[Ad (by simp[iN,boL,hl]),Ab h0,TC,Ar hs,Ab e.1,Ar (Nm e.1 (by omega)),AC hl,Tq hl];have ho:opB n sh (i:Int)=IW sh s:=by unfold opB;rw[TC,hs]
   rw[ho,<-opJ_end];simp only[Bool.true_and];have loop:Ac (PP n sh (i:Int)) (some (.inl (.l0 (opJ sh s 0) s 0))) (([],.tup [.bool (opJ sh s s.k.toNat),.int .i64 0]):Ret):=by
    refine Br (fun j=>E0.l0 (opJ sh s j) s (j:Int)) s.k.toNat (fun j hj hr=>.to ?_ hr) (.to ?_ (.ret _))
    .show FW n sh i _ s j=_;unfold FW;rw[Ag (AC (by omega)),opJ_succ,A5 (s.b+(j:Int)) (by omega) (by omega),zW j (by omega)];cases opJ sh s j with
     | false=>rfl
     | true=>rw[Ag rfl,Ab (by omega),Ar (Nm (by omega) (by omega))];rfl
    .show FW n sh i _ s _=_;unfold FW;rw[Ad (AD (by omega))]
   have z:opJ sh s 0=(!(sh.getD s.i.toNat false)&&!(sh.getD s.o.toNat false)):=by unfold opJ;simp[fnd]
   rw[z] at loop;cases h3:sh.getD s.i.toNat false with
   | true=>rw[h3] at loop;exact loop
   | false=>rw[h3] at loop;rw[Ag (by rfl),Ab (by omega),Ar (Nm e.2.2.1 (by omega))];exact loop
  .rw[Ag (by simp[iN,boL];omega),AD hl,Ts hl];simp;exact .ret _
 .rw[Ag (by simpa using h),Ts h];have:(Bc n&&decide (0<=sp)&&decide (sp<n.ss.length))=false:=by
   cases hv:Bc n with
   | false=>rfl
   | true=>
    unfold csE at h;rw[Tq hv] at h;by_cases a:0<=sp
    .by_cases b:sp<n.ss.length
     .rw[Ts (by omega)] at h;exact absurd rfl h
     .simp[b]
    .simp[a]
  rw[this];exact .ret _
theorem cOB_ok{n:Aa}(hv:Aq n){sh:List Bool}(hl:sh.length=Ao n){sp:Int}(h:0<=sp/\sp<n.ss.length):cOB n sh sp=opB n sh sp:=by unfold cOB;rw[BH.2 hv,AC h.1,AC h.2,AC hl];rfl
def L6(n:Aa)(sh:List Bool)(fl:Int):Option (Empty⊕Ret):=gu (RwV n) <|br (Db n != 0) (some (.inr ([],iV (Db n)))) (br (iN (boL sh).length != Bs n) (some (.inr ([],iV 19))) (br (decide (fl<0)) (some (.inr ([],iV 19))) (br (decide (8<fl)) (some (.inr ([],iV 19))) (some (.inr ([],iV 0))))))
theorem chc_ct(n:Aa)(sh:List Bool)(fl:Int)(r:Ret)(h:Ac emT (L6 n sh fl) r):CT Uu 46 ([]) ([Aj n,.lst (boL sh),.int .i64 fl]) r.1 r.2:=
 CT.mach (fn:=Tryz.f46) (c:=zB Tryz.f46) (S:=emS) (hd:=emH) Tryz.func46 (by kernel_rfl) (nL rfl)
  (fun s o ho=>match s,ho with
   | x,_=>x.elim)
  (fun o ho=>Scr.ok (X:=L6 n sh fl) ho mix (
 .rn 0 [] [] [] [] (al (u2 t2)) <|
 .gu fun a0=>
 have c0:=NZ a0;
 .rn 1 [] [] [(11,hK c0 [] [])] [] (aj (u2 (aj (ak (aj t9 (al (c0)))) (u2 (u2 (u2 (u2 s2)))))) (al (u2 (u2 s2)))) <|
 .br (fun a1=>
 .rt [29] [] [] [] [] [] (aj (aj a1 (al (u2 s2))) t2))
 (fun a1=>
 .br (fun a2=>
  .rt [28,47] [] [] [] [] [] (aj (aj a1 (aj (u2 (u2 (u2 (aj t3 (u2 (aj a2 (aj a2 (ag a2 (u2 (k2 (aj t3 s2))))))))))) (ak s2))) t2))
 (fun a2=>
  .br (fun a3=>
  .rt [28,46,55] [] [] [] [] [] (aj (aj a1 (aj (u2 (u2 (u2 (aj t3 (u2 (ag a2 (ag a2 (ag a2 (u2 (aj a3 (aj a3 (ag a3 s2)))))))))))) (ak s2))) t2))
  (fun a3=>
  .rn 0 [28,46,54] [] [] [] (aj a1 (al (u2 (u2 (u2 (aj t3 (u2 (ag a2 (ag a2 (ag a2 (u2 (ag a3 (ag a3 (ag a3 s2)))))))))))))) <|
  .br (fun a4=>
   .rt [46,54,37] [] [] [] [] [] (aj (aj a4 s2) t2))
  (fun a4=>
   .rt [46,54,36] [] [] [] [] [] (aj (aj a4 s2) t2)))))) (by kernel_rfl)) h
def OB(sh:List Bool)(c:Int):Option (Empty⊕Ret):=gu (∀(e:AV),e∈boL sh->e.cells.length=1) <|gu ((boL sh).length<=9223372036854775807) <|gu ((boL sh).length * 1<=140737488355328) <|gu (0<=c) <|gu (c<iN (boL sh).length) <|gu ((0+c.toNat).succ.le (boL sh).length) <|some (.inr ([],Ut ((boL sh).set (0+c.toNat) (bV true))))
theorem wth_ct(sh:List Bool)(c:Int)(r:Ret)(h:Ac emT (OB sh c) r):CT Uu 147 ([]) ([.lst (boL sh),.int .i64 c]) r.1 r.2:=
 CT.mach (fn:=Tryz.f147) (c:=zB Tryz.f147) (S:=emS) (hd:=emH) Tryz.func147 (by kernel_rfl) (nL rfl)
  (fun s o ho=>match s,ho with
   | x,_=>x.elim)
  (fun o ho=>Scr.ok (X:=OB sh c) ho mix (
 .rn 0 [] [] [] [] s2 <|
 .gu fun a0=>
 .gu fun a1=>
 .gu fun a2=>
 .rn 0 [] [] [] [] (al (u2 (aj (ak (aj a0 (aj a1 a2))) s2))) <|
 .gu fun a3=>
 .gu fun a4=>
 .gu fun a5=>
 .rt [] [] [] [] [] [0] (aj (aj (u2 (u2 (aj (k2 (aj a3 a4)) (al (ak a5))))) (al (u2 s2))) (al (show(boL sh).length=((boL sh).set (0+c.toNat) (bV true)).length by simp)))) (by kernel_rfl)) h
def muA(n:Nat->Bool)(b:Nat->Bool)(k:Int):EG:=.l1 k (n 0) (n 1) (n 2) (n 3) (n 4) (n 5) (n 6) (n 7) (n 8) (n 9) (n 10) (n 11) (n 12) (n 13) (n 14) (n 15) (n 16) (n 17) (n 18) (n 19) (n 20) (n 21) (n 22) (n 23) (b 0) (b 1) (b 2) (b 3) (b 4) (b 5) (b 6) (b 7) (b 8) (b 9) (b 10) (b 11) (b 12) (b 13) (b 14) (b 15) (b 16) (b 17) (b 18) (b 19) (b 20) (b 21) (b 22) (b 23)
theorem mut_c{g:List (List Int)}{s:List Bool}(hrw:VG g):CT Uu 48 [] [.lst (gL g),.lst (boL s)] [] (.tup [.bool (muB g s),.int .i64 (CE g s)]):=by
 refine mut_ct g s ([],_) ?_;unfold MW;rw[Ab hrw,JB];have hlg:=Cq g;have hlb:=A9 s;cases hv:Ce g with
 | false=>
  have:rvE g=20:=by unfold rvE;rw[hv];rfl
  rw[this,Ts (by simp),Eu (fun h=>by have:=h.1;rw[JB,hv] at this;cases this)];exact .ret _
 | true=>
  have hE:rvE g=0:=by unfold rvE;rw[Tq hv]
  have hO:rvO g=Al g:=by unfold rvO;rw[Tq hv]
  rw[hE,Ad (by rfl),Tq rfl];by_cases hl:s.length≠g.length
  .rw[Ag (Ui.2 (by rw[hlb,hlg];simp only[iN];omega)),Tq hl,Eu (fun h=>by have:=h.1;rw[JB,Tq hv,Tq hl] at this;cases this)];exact .ret _
  rw[Ad (by rw[hlb,hlg];simp only[Decidable.not_not] at hl;rw[hl];simp),Ts hl];have hl:s.length=g.length:=by omega
  have hc:CE g s=0:=by rw[JB,Tq hv,Ts (by omega)]
  have hg:=OI hrw hv;have hg2:=revG_gok hrw hv;have hrl:(Al g).length=g.length:=I3 g _;have h24:=hg.len;have key:∀(j k:Nat),k+j=g.length->(∀v,v<k->s.getD v true=true)->Ac (Lx g s) (some (.inl (.l0 (k:Int)))) (([],.tup [.bool (muB g s),.int .i64 0]):Ret):=by
   intro j;induction j with
   | zero=>
    intro k hk hall;refine .to (show EA g s k=some (.inr ([],.tup [.bool false,.int .i64 0])) from ?_) ?_
    .unfold EA;rw[Ad (AD (by rw[hlb];simp only[iN];omega))]
    .rw[Eu fun⟨_,⟨v,hv⟩,_⟩=>by rw[hall v (by have:=Gy hv;omega)] at hv;cases hv];exact .ret _
   | succ j ih=>
    intro k hk hall;have hkl:k<s.length:=by omega
    have hsk:=Az true hkl;have wk:=zW k (by omega);cases hso:s.getD k true with
    | true=>
     refine .to (show EA g s k=some (.inl (.l0 ((k+1:Nat):Int))) from ?_) (ih (k+1) (by omega) fun v hv=>?_)
     .unfold EA;rw[Ag (AC (by rw[hlb];simp only[iN];omega)),Ab (by omega),TC,Ar hsk,hso,Ag rfl,wk]
     .rcases Um v k with h | h
      .exact hall v h
      .have:v=k:=by omega
       subst this;exact hso
    | false=>
     refine .to (show EA g s k=some (.inl (muA (mkB g s k) (mkB (Al g) s k) 0)) from ?_) ?_
     .unfold EA;rw[Ag (AC (by rw[hlb];simp only[iN];omega)),Ab (by omega),TC,Ar hsk,hso,Ad rfl,Ab hg,Ab hl,Ab ⟨by omega,by simp only[iN];omega⟩,hO,Ab hg2,Ab (by omega),Ab ⟨by omega,by simp only[iN];omega⟩];rfl
     have inner:∀(i q:Nat),q+i=g.length->(∀w,w<q->s.getD w true=false->Rcv g s k w/\Rcv g s w k)->Ac (Lx g s) (some (.inl (muA (mkB g s k) (mkB (Al g) s k) (q:Int)))) (([],.tup [.bool (muB g s),.int .i64 0]):Ret):=by
      intro i;induction i with
      | zero=>
       intro q hq hok;refine .to (show CG g s q (mkB g s k 0) (mkB g s k 1) (mkB g s k 2) (mkB g s k 3) (mkB g s k 4) (mkB g s k 5) (mkB g s k 6) (mkB g s k 7) (mkB g s k 8) (mkB g s k 9) (mkB g s k 10) (mkB g s k 11) (mkB g s k 12) (mkB g s k 13) (mkB g s k 14) (mkB g s k 15) (mkB g s k 16) (mkB g s k 17) (mkB g s k 18) (mkB g s k 19) (mkB g s k 20) (mkB g s k 21) (mkB g s k 22) (mkB g s k 23) (mkB (Al g) s k 0) (mkB (Al g) s k 1) (mkB (Al g) s k 2) (mkB (Al g) s k 3) (mkB (Al g) s k 4) (mkB (Al g) s k 5) (mkB (Al g) s k 6) (mkB (Al g) s k 7) (mkB (Al g) s k 8) (mkB (Al g) s k 9) (mkB (Al g) s k 10) (mkB (Al g) s k 11) (mkB (Al g) s k 12) (mkB (Al g) s k 13) (mkB (Al g) s k 14) (mkB (Al g) s k 15) (mkB (Al g) s k 16) (mkB (Al g) s k 17) (mkB (Al g) s k 18) (mkB (Al g) s k 19) (mkB (Al g) s k 20) (mkB (Al g) s k 21) (mkB (Al g) s k 22) (mkB (Al g) s k 23)=some (.inr ([],.tup [.bool true,.int .i64 0])) from ?_) ?_
       .unfold CG;rw[Ad (AD (by rw[hlb];simp only[iN];omega))]
       .rw[muB_t ⟨hc,⟨k,hso⟩,fun v w hv hw=>(hok v (by have:=Gy hv;omega) hv).2.trans (hok w (by have:=Gy hw;omega) hw).1⟩];exact .ret _
      | succ i ihi=>
       intro q hq hok;have hql:q<s.length:=by omega
       have hsq:=Az true hql;have wq:=zW q (by omega);have ga:=Mq (mkB g s k) (k:=q) (by omega);have gb:=Mq (mkB (Al g) s k) (k:=q) (by omega);have nxt:(s.getD q true=false->Rcv g s k q/\Rcv g s q k)->∀w,w<q+1->s.getD w true=false->Rcv g s k w/\Rcv g s w k:=fun h w hw ho=>by
        rcases Um w q with h1 | h1
        .exact hok w h1 ho
        .have:w=q:=by omega
         subst this;exact h ho
       cases hsqo:s.getD q true with
       | true=>refine .to (show CG g s q (mkB g s k 0) (mkB g s k 1) (mkB g s k 2) (mkB g s k 3) (mkB g s k 4) (mkB g s k 5) (mkB g s k 6) (mkB g s k 7) (mkB g s k 8) (mkB g s k 9) (mkB g s k 10) (mkB g s k 11) (mkB g s k 12) (mkB g s k 13) (mkB g s k 14) (mkB g s k 15) (mkB g s k 16) (mkB g s k 17) (mkB g s k 18) (mkB g s k 19) (mkB g s k 20) (mkB g s k 21) (mkB g s k 22) (mkB g s k 23) (mkB (Al g) s k 0) (mkB (Al g) s k 1) (mkB (Al g) s k 2) (mkB (Al g) s k 3) (mkB (Al g) s k 4) (mkB (Al g) s k 5) (mkB (Al g) s k 6) (mkB (Al g) s k 7) (mkB (Al g) s k 8) (mkB (Al g) s k 9) (mkB (Al g) s k 10) (mkB (Al g) s k 11) (mkB (Al g) s k 12) (mkB (Al g) s k 13) (mkB (Al g) s k 14) (mkB (Al g) s k 15) (mkB (Al g) s k 16) (mkB (Al g) s k 17) (mkB (Al g) s k 18) (mkB (Al g) s k 19) (mkB (Al g) s k 20) (mkB (Al g) s k 21) (mkB (Al g) s k 22) (mkB (Al g) s k 23)=some (.inl (muA (mkB g s k) (mkB (Al g) s k) ((q+1:Nat):Int))) from ?_) (ihi (q+1) (by omega) (nxt fun h=>by rw[hsqo] at h;cases h));unfold CG;rw[Ag (AC (by rw[hlb];simp only[iN];omega)),Ab (by omega),TC,Ar hsq,hsqo,Ad (by rfl),wq];rfl
       | false=>
        cases hm:mkB g s k q with
        | false=>
         refine .to (show CG g s q (mkB g s k 0) (mkB g s k 1) (mkB g s k 2) (mkB g s k 3) (mkB g s k 4) (mkB g s k 5) (mkB g s k 6) (mkB g s k 7) (mkB g s k 8) (mkB g s k 9) (mkB g s k 10) (mkB g s k 11) (mkB g s k 12) (mkB g s k 13) (mkB g s k 14) (mkB g s k 15) (mkB g s k 16) (mkB g s k 17) (mkB g s k 18) (mkB g s k 19) (mkB g s k 20) (mkB g s k 21) (mkB g s k 22) (mkB g s k 23) (mkB (Al g) s k 0) (mkB (Al g) s k 1) (mkB (Al g) s k 2) (mkB (Al g) s k 3) (mkB (Al g) s k 4) (mkB (Al g) s k 5) (mkB (Al g) s k 6) (mkB (Al g) s k 7) (mkB (Al g) s k 8) (mkB (Al g) s k 9) (mkB (Al g) s k 10) (mkB (Al g) s k 11) (mkB (Al g) s k 12) (mkB (Al g) s k 13) (mkB (Al g) s k 14) (mkB (Al g) s k 15) (mkB (Al g) s k 16) (mkB (Al g) s k 17) (mkB (Al g) s k 18) (mkB (Al g) s k 19) (mkB (Al g) s k 20) (mkB (Al g) s k 21) (mkB (Al g) s k 22) (mkB (Al g) s k 23)=some (.inr ([],.tup [.bool false,.int .i64 0])) from ?_) ?_
         .unfold CG;rw[Ag (AC (by rw[hlb];simp only[iN];omega)),Ab (by omega),TC,Ar hsq,hsqo,Ag (by rfl),Ab (by omega),Ar ga,hm,Ag (by rfl)]
         .rw[Eu fun h=>by
           have:=Ez.2 (h.2.2 k q hso hsqo);rw[hm] at this;cases this]
          exact .ret _
        | true=>
         cases hm2:mkB (Al g) s k q with
         | false=>
          refine .to (show CG g s q (mkB g s k 0) (mkB g s k 1) (mkB g s k 2) (mkB g s k 3) (mkB g s k 4) (mkB g s k 5) (mkB g s k 6) (mkB g s k 7) (mkB g s k 8) (mkB g s k 9) (mkB g s k 10) (mkB g s k 11) (mkB g s k 12) (mkB g s k 13) (mkB g s k 14) (mkB g s k 15) (mkB g s k 16) (mkB g s k 17) (mkB g s k 18) (mkB g s k 19) (mkB g s k 20) (mkB g s k 21) (mkB g s k 22) (mkB g s k 23) (mkB (Al g) s k 0) (mkB (Al g) s k 1) (mkB (Al g) s k 2) (mkB (Al g) s k 3) (mkB (Al g) s k 4) (mkB (Al g) s k 5) (mkB (Al g) s k 6) (mkB (Al g) s k 7) (mkB (Al g) s k 8) (mkB (Al g) s k 9) (mkB (Al g) s k 10) (mkB (Al g) s k 11) (mkB (Al g) s k 12) (mkB (Al g) s k 13) (mkB (Al g) s k 14) (mkB (Al g) s k 15) (mkB (Al g) s k 16) (mkB (Al g) s k 17) (mkB (Al g) s k 18) (mkB (Al g) s k 19) (mkB (Al g) s k 20) (mkB (Al g) s k 21) (mkB (Al g) s k 22) (mkB (Al g) s k 23)=some (.inr ([],.tup [.bool false,.int .i64 0])) from ?_) ?_
          .unfold CG;rw[Ag (AC (by rw[hlb];simp only[iN];omega)),Ab (by omega),TC,Ar hsq,hsqo,Ag (by rfl),Ab (by omega),Ar ga,hm,Ad (by rfl),Ar gb,hm2,Ag (by rfl)]
          .rw[Eu fun h=>by
            have:=Ez.2 (rcv_vre hg (h.2.2 q k hsqo hso));rw[hm2] at this;cases this]
           exact .ret _
         | true=>refine .to (show CG g s q (mkB g s k 0) (mkB g s k 1) (mkB g s k 2) (mkB g s k 3) (mkB g s k 4) (mkB g s k 5) (mkB g s k 6) (mkB g s k 7) (mkB g s k 8) (mkB g s k 9) (mkB g s k 10) (mkB g s k 11) (mkB g s k 12) (mkB g s k 13) (mkB g s k 14) (mkB g s k 15) (mkB g s k 16) (mkB g s k 17) (mkB g s k 18) (mkB g s k 19) (mkB g s k 20) (mkB g s k 21) (mkB g s k 22) (mkB g s k 23) (mkB (Al g) s k 0) (mkB (Al g) s k 1) (mkB (Al g) s k 2) (mkB (Al g) s k 3) (mkB (Al g) s k 4) (mkB (Al g) s k 5) (mkB (Al g) s k 6) (mkB (Al g) s k 7) (mkB (Al g) s k 8) (mkB (Al g) s k 9) (mkB (Al g) s k 10) (mkB (Al g) s k 11) (mkB (Al g) s k 12) (mkB (Al g) s k 13) (mkB (Al g) s k 14) (mkB (Al g) s k 15) (mkB (Al g) s k 16) (mkB (Al g) s k 17) (mkB (Al g) s k 18) (mkB (Al g) s k 19) (mkB (Al g) s k 20) (mkB (Al g) s k 21) (mkB (Al g) s k 22) (mkB (Al g) s k 23)=some (.inl (muA (mkB g s k) (mkB (Al g) s k) ((q+1:Nat):Int))) from ?_) (ihi (q+1) (by omega) (nxt fun _=>⟨Ez.1 hm,rcv_rev hg (Ez.1 hm2)⟩));unfold CG;rw[Ag (AC (by rw[hlb];simp only[iN];omega)),Ab (by omega),TC,Ar hsq,hsqo,Ag (by rfl),Ab (by omega),Ar ga,hm,Ad (by rfl),Ar gb,hm2,Ad (by rfl),wq];rfl
     exact inner g.length 0 (by omega) fun w hw=>absurd hw (Ul _)
  exact key g.length 0 (by omega) fun v h=>absurd h (Ul _)
def chE(n:Aa)(sh:List Bool)(fl:Int):Int:=if Bc n=true then (if sh.length=Ao n/\0<=fl/\fl<=8 then 0 else 19) else 20
theorem Lr{n:Aa}{sh:List Bool}{fl:Int}(h:chE n sh fl=0):Aq n/\sh.length=Ao n/\0<=fl/\fl<=8:=by
 unfold chE at h;split at h
 .rename_i hv;split at h
  .rename_i hx;exact⟨BH.1 hv,hx⟩
  .cases h
 .cases h
theorem MP{n:Aa}{sh:List Bool}{fl:Int}(hv:Aq n)(hl:sh.length=Ao n)(h:0<=fl/\fl<=8):chE n sh fl=0:=by unfold chE;rw[Tq (BH.2 hv),Tq ⟨hl,h⟩]
theorem NL{n:Aa}(sh:List Bool)(fl:Int)(hrw:RwV n):CT Uu 46 [] [Aj n,.lst (boL sh),.int .i64 fl] [] (.int .i64 (chE n sh fl)):=by
 refine chc_ct n sh fl ([],_) (.val ?_);unfold L6 chE Db Bs;rw[Ab hrw];cases hv:Bc n with
 | false=>rfl
 | true=>
  rw[Tq rfl,Tq rfl,Tq rfl,Ad (by rfl),A9];by_cases h1:sh.length=Ao n
  .rw[Ad (by simp[iN,h1])];by_cases h2:fl<0
   .rw[Ag (AC h2),Ts (by omega)]
   .by_cases h3:8<fl
    .rw[Ad (AD h2),Ag (AC h3),Ts (by omega)]
    .rw[Ad (AD h2),Ad (AD h3),Tq ⟨h1,by omega,by omega⟩]
  .rw[Ag (Ui.2 (by simp only[iN];omega)),Ts (by omega)]
def wth(sh:List Bool)(c:Int):List Bool:=sh.set c.toNat true
theorem QQ(sh:List Bool)(c:Int):(wth sh c).length=sh.length:=by unfold wth;simp
theorem wth_c{sh:List Bool}{c:Int}(hl:sh.length<=100000)(hc:0<=c/\c<(sh.length:Int)):CT Uu 147 [] [.lst (boL sh),.int .i64 c] [] (.lst (boL (wth sh c))):=by refine wth_ct sh c ([],_) (.val ?_);have hL:=A9 sh;unfold OB;rw[Ab (fun e he=>by unfold boL at he;obtain⟨b,_,rfl⟩:=T1.1 he;rfl),Ab (by omega),Ab (by omega),Ab hc.1,Ab (by rw[hL];simp only[iN];omega),Ab (show Nat.le _ _ from(show 0+c.toNat+1<=(boL sh).length by omega))];unfold wth boL;rw[Uj,TI]
inductive EC where | l0 (v0 v1:Int)
def sloSt(n:Aa)(sh:List Bool):EC->St | .l0 v0 v1=>St.mk 44 [(1,Ut (boL sh)),(2,AV.ptr 0 0 0),(7,iv v0),(19,Ut (Un sA n.ss)),(20,iv (iN (Un sA n.ss).length)),(21,iv v1)] [some (bK [Aj n] 8)]
def Lo(n:Aa)(sh:List Bool):Option (EC⊕Ret):=gu (RwV n) <|br (chE n sh 0 != 0) (some (.inr ([],AV.tup [iV 0,iV (chE n sh 0)]))) (some (.inl (.l0 ((0:Int)) ((0:Int)))))
def HC(n:Aa)(sh:List Bool)(v0 v1:Int):Option (EC⊕Ret):=br (decide (v1<iN (Un sA n.ss).length)) (gu (0<=v1) <|el (n.ss) (v1.toNat) fun(x24:Au)=>gu (RwV n) <|br (cOB n sh v1) (br (x24.dep) (some (.inl (.l0 (i64.wrap (v0+x24.k)) (i64.wrap (v1+1))))) (some (.inl (.l0 v0 (i64.wrap (v1+1)))))) (some (.inl (.l0 v0 (i64.wrap (v1+1)))))) (some (.inr ([],AV.tup [iV v0,iV 0])))
def sloStep(n:Aa)(sh:List Bool):EC->Option (EC⊕Ret) | .l0 v0 v1=>HC n sh v0 v1
theorem slo_ct(n:Aa)(sh:List Bool)(r:Ret)(h:Ac (sloStep n sh) (Lo n sh) r):CT Uu 47 ([]) ([Aj n,.lst (boL sh)]) r.1 r.2:=
 CT.mach (fn:=Tryz.f47) (c:=zB Tryz.f47) (S:=(sloSt n sh)) (hd:=EC.ctorIdx) Tryz.func47 (by kernel_rfl) (nL rfl)
  (fun s o ho=>match s,ho with
 | .l0 v0 v1,ho=>Scr.ok (X:=HC n sh v0 v1) ho mix (
 .rn 0 [] [] [] [] (al (al t3)) <|
 .br (fun a0=>
 .gu fun a1=>
 .el fun x24 a2=>
 .rn 0 [45] [(24,sA x24)] [] [] (aj a0 (al (u2 (aj (k2 (aj a1 (Af (f:=sA) a2))) (u2 (ak (u2 (al (k2 n11))))))))) <|
 .gu fun a3=>
 have c0:=Mf a3 (sh) (v1);
 .rn 0 [] [] [(30,hK c0 [] [])] [] (al (u2 (u2 (u2 (aj (k3 (aj t9 (k2 (al (c0))))) (u2 (u2 (u2 (u2 s2))))))))) <|
 .br (fun a4=>
  .rn 0 [69] [] [] [] (al (u2 (u2 (ag a4 (ag a4 (al (aj a4 t2))))))) <|
  .br (fun a5=>
  .lp [69,75] [] [] [] [] [0] [1,2,7,19,20,21] (aj (aj a5 (aj (u2 (u2 (u2 (aj t3 s2)))) (al (u2 s2)))) t8))
  (fun a5=>
  .lp [69,74] [] [] [] [] [0] [1,2,7,19,20,21] (aj (aj a5 (al (u2 s2))) t8)))
 (fun a4=>
  .lp [68] [] [] [] [] [0] [1,2,7,19,20,21] (aj (aj (u2 (u2 (aj a4 (aj a4 (al (aj a4 t2)))))) (ak (al (u2 s2)))) t8)))
 (fun a0=>
 .rt [44] [] [] [] [] [] (aj (aj a0 (al (u2 (u2 t2)))) (al t3)))) (by kernel_rfl)
  )
  (fun o ho=>Scr.ok (X:=Lo n sh) ho mix (
 .rn 0 [] [] [] [] (al (u2 t3)) <|
 .gu fun a0=>
 have c0:=NL (sh) (0) a0;
 .rn 1 [] [] [(14,hK c0 [] [])] [] (aj (u2 (u2 (aj (k2 (aj t9 (k2 (al (c0))))) s2))) (al (u2 s2))) <|
 .br (fun a1=>
 .rt [33] [] [] [] [] [] (aj (aj a1 (al (u2 (ak s2)))) (al t3)))
 (fun a1=>
 .lp [32] [] [] [] [] [0] [1,2,7,19,20,21] (aj (aj a1 (u2 (al (u2 (u2 (u2 t2)))))) t8))) (by kernel_rfl)) h
def MF(n:Aa)(sh:List Bool)(fl:Int):Option (Empty⊕Ret):=gu (∀(e:AV),e∈boL sh->e.cells.length=1) <|gu (iN (Un bA n.bs).length<=iN (boL sh).length) <|gu (VG n.nx) <|br (muB n.nx (Uq ((Un bA n.bs).length-Us 0) (Up (Us 0) sh))) (gu (Aq n) <|gu (sh.length=Ao n) <|some (.inr ([],bV (decide (fl<=slS n sh))))) (some (.inr ([],bV false)))
theorem rca_ct(n:Aa)(sh:List Bool)(fl:Int)(r:Ret)(h:Ac emT (MF n sh fl) r):CT Uu 114 ([]) ([Aj n,.lst (boL sh),.int .i64 fl]) r.1 r.2:=
 CT.mach (fn:=Tryz.f114) (c:=zB Tryz.f114) (S:=emS) (hd:=emH) Tryz.func114 (by kernel_rfl) (nL rfl)
  (fun s o ho=>match s,ho with
   | x,_=>x.elim)
  (fun o ho=>Scr.ok (X:=MF n sh fl) ho mix (
 .rn 0 [] [] [] [] (al (u2 t2)) <|
 .gu fun a0=>
 .gu fun a1=>
 .gu fun a2=>
 have c0:=rmu_c a2;
 .rn 0 [] [] [(17,hK c0 [] [])] [] (al (u2 (u2 (u2 (u2 (u2 (u2 (aj (k2 (aj a0 (aj (Int.le_refl 0) (aj (show 0<=iN (Un bA n.bs).length from(Int.natCast_nonneg _)) (aj a1 (show iN (boL sh).length<=iN (boL sh).length by omega)))))) (aj (ak (k3 (al (show CT Uu 148 [] [Ut (gL n.nx),Ut (Uq ((Un bA n.bs).length-Us 0) (Up (Us 0) (boL sh)))] [] (AV.tup [bV (muB n.nx (Uq ((Un bA n.bs).length-Us 0) (Up (Us 0) sh))),iv (CE n.nx (Uq ((Un bA n.bs).length-Us 0) (Up (Us 0) sh)))]) from CT.eqs (c0) (by first | (simp only[boL,TG,Uj,List.map_take,List.map_drop,List.map_replicate,List.nil_append]<;>rfl) | (simp[gL,boL,lI,sA,bA]<;>rfl)) (by first | (simp only[boL,TG,Uj,List.map_take,List.map_drop,List.map_replicate,List.nil_append]<;>rfl) | (simp[gL,boL,lI,sA,bA]<;>rfl)))))) (u2 (u2 (u2 (u2 s2))))))))))))) <|
 .br (fun a3=>
 .gu fun a4=>
 .gu fun a5=>
 have c1:=rsl_c a4 a5;
 .rt [43] [] [(24,hK c1 [] [])] [] [] [] (aj (al (u2 (u2 (ag a3 (ag a3 (aj (aj a3 (k2 (aj t9 (ak (al (c1)))))) (ag a3 (aj (aj a3 t3) (ag a3 s2))))))))) t2))
 (fun a3=>
 .rt [42] [] [] [] [] [] (aj (al (u2 (u2 (aj a3 (aj a3 (aj a3 (aj a3 (aj a3 (ag a3 s2))))))))) t2))) (by kernel_rfl)) h
def slZ(n:Aa)(sh:List Bool):Int:=if chE n sh 0=0 then slS n sh else 0
theorem slo_c{n:Aa}(sh:List Bool)(hrw:RwV n):CT Uu 47 [] [Aj n,.lst (boL sh)] [] (.tup [.int .i64 (slZ n sh),.int .i64 (chE n sh 0)]):=by
 refine slo_ct n sh ([],_) ?_;have hn:(Un sA n.ss).length=n.ss.length:=Tw _;unfold Lo slZ;rw[Ab hrw];by_cases h:chE n sh 0=0
 case neg=>rw[Ag (Ui.2 h),Ts h];exact .ret _
 obtain⟨hv,hl,_⟩:=Lr h;have hss:n.ss.length<=100000:=by have:=hv.ns;omega
 rw[Ad (by rw[h];rfl),Tq h,h];refine Br (fun j=>EC.l0 (slI n sh j) (j:Int)) n.ss.length (fun j hj hr=>.to ?_ hr) (.to ?_ (.ret _))
 .show HC n sh (slI n sh j) j=_;have hs:=Az s0 hj;have hb:=Q2 hv sh j (by omega);have ht:=Ny hv sh hj;unfold HC;rw[Ag (AC (by rw[hn];simp only[iN];omega)),Ab (by omega),TC,Ar hs,zW j (by omega),Ab hrw,cOB_ok hv hl ⟨by omega,by omega⟩];show _=some (Sum.inl (EC.l0 (slI n sh j+slT n sh j) ((j+1:Nat):Int)));unfold slT at ht ⊢
  cases ho:opB n sh (j:Int) with
  | false=>rw[Ad rfl,Ts (fun h=>by cases h.2),Int.add_zero]
  | true=>
   rw[Ag rfl];cases hd:(n.ss.getD j s0).dep with
   | false=>rw[Ad rfl,Ts (fun h=>by cases h.1),Int.add_zero]
   | true=>rw[hd,ho,Tq ⟨rfl,rfl⟩] at ht;rw[Ag rfl,Tq ⟨rfl,rfl⟩,EZ (by omega) (by omega)]
 .show HC n sh (slI n sh n.ss.length) n.ss.length=_;unfold HC;rw[Ad (AD (by rw[hn];simp only[iN];omega))];rfl
def caB(n:Aa)(sh:List Bool)(fl:Int):Bool:=muB n.nx (sh.take n.bs.length)&&decide (fl<=slS n sh)
theorem tk_eq(n:Aa)(sh:List Bool):Uq ((Un bA n.bs).length-Us 0) (Up (Us 0) sh)=sh.take n.bs.length:=by rw[Tw];rfl
theorem KO{n:Aa}(hv:Aq n){sh:List Bool}(hl:sh.length=Ao n):n.bs.length<=sh.length:=by rw[hl];exact hv.cel.2.1
theorem OV(sh:List Bool):∀(e:AV),e∈boL sh->e.cells.length=1:=fun e he=>by unfold boL at he;obtain⟨b,_,rfl⟩:=T1.1 he;rfl
theorem JM{n:Aa}{sh:List Bool}(fl:Int)(hv:Aq n)(hl:sh.length=Ao n)(hrw:RwV n):CT Uu 114 [] [Aj n,.lst (boL sh),.int .i64 fl] [] (.bool (caB n sh fl)):=by
 refine rca_ct n sh fl ([],_) (.val ?_);have hb:=KO hv hl;unfold MF caB;rw[Ab (OV sh),Ab (by rw[A9,Tw];simp only[iN];omega),Ab hrw.1.vg,tk_eq];cases muB n.nx (sh.take n.bs.length) with
 | false=>rfl
 | true=>rw[Ag rfl,Ab hv,Ab hl];rfl
def Me(n:Aa)(sh:List Bool)(fl:Int):Option (Empty⊕Ret):=gu (RwV n) <|br (chE n sh fl != 0) (some (.inr ([],AV.tup [bV false,iV (chE n sh fl)]))) (gu (∀(e:AV),e∈boL sh->e.cells.length=1) <|gu (iN (Un bA n.bs).length<=iN (boL sh).length) <|gu (VG n.nx) <|br (muB n.nx (Uq ((Un bA n.bs).length-Us 0) (Up (Us 0) sh))) (some (.inr ([],AV.tup [bV (decide (fl<=slZ n sh)),iV 0]))) (some (.inr ([],AV.tup [bV false,iV 0]))))
theorem car_ct(n:Aa)(sh:List Bool)(fl:Int)(r:Ret)(h:Ac emT (Me n sh fl) r):CT Uu 15 ([]) ([Aj n,.lst (boL sh),.int .i64 fl]) r.1 r.2:=
 CT.mach (fn:=Tryz.f15) (c:=zB Tryz.f15) (S:=emS) (hd:=emH) Tryz.func15 (by kernel_rfl) (nL rfl)
  (fun s o ho=>match s,ho with
   | x,_=>x.elim)
  (fun o ho=>Scr.ok (X:=Me n sh fl) ho mix (
 .rn 0 [] [] [] [] (al (u2 t3)) <|
 .gu fun a0=>
 have c0:=NL (sh) (fl) a0;
 .rn 1 [] [] [(16,hK c0 [] [])] [] (aj (u2 (u2 (u2 (aj (k3 (aj t9 (k2 (al (c0))))) s2)))) (al (u2 s2))) <|
 .br (fun a1=>
 .rt [37] [] [] [] [] [] (aj (aj a1 (al (u2 (ak s2)))) (al t3)))
 (fun a1=>
 have c1:=slo_c (sh) a0;
 .rn 0 [36] [] [(23,hK c1 [] [])] [] (aj a1 (al (u2 (u2 (aj (k2 (aj t9 (ak (al (c1))))) (u2 (u2 (u2 (u2 s2))))))))) <|
 .gu fun a2=>
 .gu fun a3=>
 .gu fun a4=>
 have c2:=mut_c a4;
 .rn 0 [] [] [(34,hK c2 [] [])] [] (al (u2 (u2 (u2 (u2 (u2 (u2 (aj (k2 (aj a2 (aj (Int.le_refl 0) (aj (show 0<=iN (Un bA n.bs).length from(Int.natCast_nonneg _)) (aj a3 (show iN (boL sh).length<=iN (boL sh).length by omega)))))) (aj (ak (k3 (al (show CT Uu 48 [] [Ut (gL n.nx),Ut (Uq ((Un bA n.bs).length-Us 0) (Up (Us 0) (boL sh)))] [] (AV.tup [bV (muB n.nx (Uq ((Un bA n.bs).length-Us 0) (Up (Us 0) sh))),iv (CE n.nx (Uq ((Un bA n.bs).length-Us 0) (Up (Us 0) sh)))]) from CT.eqs (c2) (by first | (simp only[boL,TG,Uj,List.map_take,List.map_drop,List.map_replicate,List.nil_append]<;>rfl) | (simp[gL,boL,lI,sA,bA]<;>rfl)) (by first | (simp only[boL,TG,Uj,List.map_take,List.map_drop,List.map_replicate,List.nil_append]<;>rfl) | (simp[gL,boL,lI,sA,bA]<;>rfl)))))) (u2 (u2 (u2 (u2 s2))))))))))))) <|
 .br (fun a5=>
  .rt [77] [] [] [] [] [] (aj (al (u2 (u2 (ag a5 (ag a5 (aj (aj a5 t3) (ag a5 (u2 t2)))))))) (al t3)))
 (fun a5=>
  .rt [76] [] [] [] [] [] (aj (al (u2 (u2 (aj a5 (aj a5 (aj a5 (ag a5 (u2 t2)))))))) (al t3))))) (by kernel_rfl)) h
def MX(n:Aa)(sh:List Bool)(bk fl:Int):Option (Empty⊕Ret):=gu (0<=bk) <|el (sh) (bk.toNat) fun(x11:Bool)=>br (!x11) (gu (sh.length<=100000) <|gu (0<=bk/\bk<iN sh.length) <|gu (Aq n) <|gu ((wth sh bk).length=Ao n) <|gu (RwV n) <|some (.inr ([],bV (caB n (wth sh bk) fl)))) (some (.inr ([],bV false)))
theorem ral_ct(n:Aa)(sh:List Bool)(bk fl:Int)(r:Ret)(h:Ac emT (MX n sh bk fl) r):CT Uu 111 ([]) ([Aj n,.lst (boL sh),.int .i64 bk,.int .i64 fl]) r.1 r.2:=
 CT.mach (fn:=Tryz.f111) (c:=zB Tryz.f111) (S:=emS) (hd:=emH) Tryz.func111 (by kernel_rfl) (nL rfl)
  (fun s o ho=>match s,ho with
   | x,_=>x.elim)
  (fun o ho=>Scr.ok (X:=MX n sh bk fl) ho mix (
 .rn 0 [] [] [] [] (al (u2 t2)) <|
 .gu fun a0=>
 .el fun x11 a1=>
 .br (fun a2=>
 .gu fun a3=>
 .gu fun a4=>
 .gu fun a5=>
 .gu fun a6=>
 .gu fun a7=>
 have c0:=wth_c a3 a4;
 have c1:=JM (fl) a5 a6 a7;
 .rt [29] [(11,bV x11)] [(18,hK c0 [] []),(20,hK c1 [] [])] [] [] [] (aj (al (u2 (u2 (aj (k2 (aj a0 (Af (f:=bV) a1))) (u2 (u2 (u2 (ag a2 (ag a2 (ag a2 (aj (aj a2 (ak (k3 (al (c0))))) (ag a2 (aj (aj a2 (k3 (aj t9 (k2 (al (c1)))))) (ag a2 s2)))))))))))))) t2))
 (fun a2=>
 .rt [28] [(11,bV x11)] [] [] [] [] (aj (al (u2 (u2 (aj (k2 (aj a0 (Af (f:=bV) a1))) (u2 (u2 (u2 (aj a2 (aj a2 (aj a2 (aj a2 (aj a2 (aj a2 (ag a2 s2)))))))))))))) t2))) (by kernel_rfl)) h
def caO(n:Aa)(sh:List Bool)(fl:Int):Bool:=if chE n sh fl=0 then caB n sh fl else false
theorem slZ_ok{n:Aa}{sh:List Bool}(hv:Aq n)(hl:sh.length=Ao n):slZ n sh=slS n sh:=by unfold slZ;rw[Tq (MP hv hl (by omega))]
theorem car_c{n:Aa}(sh:List Bool)(fl:Int)(hrw:RwV n):CT Uu 15 [] [Aj n,.lst (boL sh),.int .i64 fl] [] (.tup [.bool (caO n sh fl),.int .i64 (chE n sh fl)]):=by
 refine car_ct n sh fl ([],_) (.val ?_);unfold Me caO;rw[Ab hrw];by_cases h:chE n sh fl=0
 case neg=>rw[Ag (Ui.2 h),Ts h]
 obtain⟨hv,hl,_⟩:=Lr h;have hb:=KO hv hl;rw[Ad (by rw[h];rfl),Tq h,h,Ab (OV sh),Ab (by rw[A9,Tw];simp only[iN];omega),tk_eq,slZ_ok hv hl,Ab hv.vg];unfold caB;cases muB n.nx (sh.take n.bs.length)<;>rfl
def alB(n:Aa)(sh:List Bool)(bk fl:Int):Bool:= !(sh.getD bk.toNat true)&&caB n (wth sh bk) fl
theorem ral_c{n:Aa}{sh:List Bool}{bk:Int}(fl:Int)(hv:Aq n)(hl:sh.length=Ao n)(hrw:RwV n)(hk:0<=bk/\bk<(n.bs.length:Int)):CT Uu 111 [] [Aj n,.lst (boL sh),.int .i64 bk,.int .i64 fl] [] (.bool (alB n sh bk fl)):=by
 refine ral_ct n sh bk fl ([],_) (.val ?_);have hb:=KO hv hl;have hc:=hv.cel;have hs:=Az true (show bk.toNat<sh.length by omega);unfold MX alB;rw[Ab hk.1,Ar hs];cases sh.getD bk.toNat true with
 | true=>rfl
 | false=>rw[Ag (by rfl),Ab (by omega),Ab ⟨by omega,by simp only[iN];omega⟩,Ab hv,Ab (by rw[QQ];exact hl),Ab hrw];rfl
def OH(n:Aa)(sh:List Bool)(bk fl:Int):Option (Empty⊕Ret):=gu (RwV n) <|br (chE n sh fl != 0) (some (.inr ([],AV.tup [bV false,iV (chE n sh fl)]))) (br (decide (bk<0)) (some (.inr ([],AV.tup [bV false,iV 19]))) (br (decide (iN (Un bA n.bs).length<=bk)) (some (.inr ([],AV.tup [bV false,iV 19]))) (gu (0<=bk) <|el (sh) (bk.toNat) fun(x33:Bool)=>br x33 (some (.inr ([],AV.tup [bV false,iV 0]))) (gu (1 * iN (boL sh).length<=281474976710656) <|gu (iN (boL sh).length<=9223372036854775807) <|gu (∀(e:AV),e∈boL sh->e.cells.length=1) <|gu (bk<iN (boL sh).length) <|gu ((0+bk.toNat).succ.le ([]++Uq (min (boL sh).length (boL sh).length) (boL sh)++Up (0+min (boL sh).length (boL sh).length) (Uo (boL sh).length (bV false))).length) <|some (.inr ([],AV.tup [bV (caO n ((Uq (min (boL sh).length (boL sh).length) sh++Up (0+min (boL sh).length (boL sh).length) (Uo (boL sh).length false)).set (0+bk.toNat) true) fl),iV (chE n ((Uq (min (boL sh).length (boL sh).length) sh++Up (0+min (boL sh).length (boL sh).length) (Uo (boL sh).length false)).set (0+bk.toNat) true) fl)]))))))
theorem all_ct(n:Aa)(sh:List Bool)(bk fl:Int)(r:Ret)(h:Ac emT (OH n sh bk fl) r):CT Uu 82 ([]) ([Aj n,.lst (boL sh),.int .i64 bk,.int .i64 fl]) r.1 r.2:=
 CT.mach (fn:=Tryz.f82) (c:=zB Tryz.f82) (S:=emS) (hd:=emH) Tryz.func82 (by kernel_rfl) (nL rfl)
  (fun s o ho=>match s,ho with
   | x,_=>x.elim)
  (fun o ho=>Scr.ok (X:=OH n sh bk fl) ho mix (
 .rn 0 [] [] [] [] (al (u2 t3)) <|
 .gu fun a0=>
 have c0:=NL (sh) (fl) a0;
 .rn 1 [] [] [(15,hK c0 [] [])] [] (aj (u2 (u2 (u2 (aj (k3 (aj t9 (k2 (al (c0))))) s2)))) (al (u2 (u2 s2)))) <|
 .br (fun a1=>
 .rt [33] [] [] [] [] [] (aj (aj a1 (al (u2 (ak s2)))) (al t3)))
 (fun a1=>
 .br (fun a2=>
  .rt [32,47] [] [] [] [] [] (aj (aj a1 (aj (u2 (u2 (u2 (aj a2 (aj a2 (aj a2 (aj a2 (aj a2 (ag a2 s2))))))))) (ak (al t3)))) (al t3)))
 (fun a2=>
  .rn 0 [32,46] [] [] [] (aj a1 (al (u2 (u2 (u2 (ag a2 (ag a2 (ag a2 (ag a2 (aj (aj a2 t3) (ag a2 s2))))))))))) <|
  .br (fun a3=>
  .rt [46,41] [] [] [] [] [] (aj (aj a3 (al t3)) (al t3)))
  (fun a3=>
  .gu fun a4=>
  .el fun x33 a5=>
  .rn 0 [46,40] [(33,bV x33)] [] [] (aj a3 (al (u2 (u2 (aj (k2 (aj a4 (Af (f:=bV) a5))) (u2 s2)))))) <|
  .br (fun a6=>
   .rt [46,61] [] [] [] [] [] (aj (aj a6 (al t3)) (al t3)))
  (fun a6=>
   .gu fun a7=>
   .gu fun a8=>
   .rn 0 [46,60] [] [] [] (aj a6 (al (u2 (u2 (aj (k2 (aj (show 0<=iN (boL sh).length from(Int.natCast_nonneg _)) (aj (show iN (boL sh).length<=iN (boL sh).length by omega) (aj a7 a8)))) s2))))) <|
   .gu fun a9=>
   .rn 0 [46] [] [] [] (al (u2 (u2 (al (k2 (aj (show 0+(boL sh).length<=(Uo (boL sh).length (bV false)).length by simp) a9)))))) <|
   .gu fun a10=>
   .gu fun a11=>
   have c1:=car_c ((Uq (min (boL sh).length (boL sh).length) sh++Up (0+min (boL sh).length (boL sh).length) (Uo (boL sh).length false)).set (0+bk.toNat) true) (fl) a0;
   .rt [46] [] [(47,hK c1 [] [1])] [] [] [] (aj (aj (u2 (u2 (aj (k2 (aj a4 a10)) (al (ak a11))))) (al (u2 (u2 (u2 (aj (k3 (aj t9 (aj (show(boL sh).length=(([]++Uq (min (boL sh).length (boL sh).length) (boL sh)++Up (0+min (boL sh).length (boL sh).length) (Uo (boL sh).length (bV false))).set (0+bk.toNat) (bV true)).length by simp) (ak (aj (show CT Uu 15 [] [AV.agg [Ut (Un bA n.bs),Ut (gL n.nx),Ut (Un sA n.ss),Ut (Un iv n.rs),iv n.q,iv n.a,iv n.d,iv n.p],Ut (([]++Uq (min (boL sh).length (boL sh).length) (boL sh)++Up (0+min (boL sh).length (boL sh).length) (Uo (boL sh).length (bV false))).set (0+bk.toNat) (bV true)),iv fl] [] (AV.tup [bV (caO n ((Uq (min (boL sh).length (boL sh).length) sh++Up (0+min (boL sh).length (boL sh).length) (Uo (boL sh).length false)).set (0+bk.toNat) true) fl),iv (chE n ((Uq (min (boL sh).length (boL sh).length) sh++Up (0+min (boL sh).length (boL sh).length) (Uo (boL sh).length false)).set (0+bk.toNat) true) fl)]) from CT.eqs (c1) (by first | (simp only[boL,TG,Uj,List.map_take,List.map_drop,List.map_replicate,List.nil_append]<;>rfl) | (simp[gL,boL,lI,sA,bA]<;>rfl)) (by first | (simp only[boL,TG,Uj,List.map_take,List.map_drop,List.map_replicate,List.nil_append]<;>rfl) | (simp[gL,boL,lI,sA,bA]<;>rfl))) (show ∀(blk:Blk),blk∈[]->A7 blk from(by intro _ h;cases h))))))) (u2 (u2 (u2 s2))))))))) (al t3))))))) (by kernel_rfl)) h
def alE(n:Aa)(sh:List Bool)(bk fl:Int):Int:=if chE n sh fl=0 then (if 0<=bk/\bk<(n.bs.length:Int) then 0 else 19) else chE n sh fl
def alO(n:Aa)(sh:List Bool)(bk fl:Int):Bool:=if alE n sh bk fl=0 then alB n sh bk fl else false
theorem Qx{n:Aa}{sh:List Bool}{bk fl:Int}(h:chE n sh fl≠0):alE n sh bk fl=chE n sh fl/\alO n sh bk fl=false:=by
 have e:alE n sh bk fl=chE n sh fl:=by unfold alE;rw[Ts h]
 exact⟨e,by unfold alO;rw[Ts (by rw[e];exact h)]⟩
theorem JH{n:Aa}{sh:List Bool}{bk fl:Int}(h:chE n sh fl=0)(hb:¬(0<=bk/\bk<(n.bs.length:Int))):alE n sh bk fl=19/\alO n sh bk fl=false:=by
 have e:alE n sh bk fl=19:=by unfold alE;rw[Tq h,Ts hb]
 exact⟨e,by unfold alO;rw[Ts (by omega)]⟩
theorem Mc{n:Aa}{sh:List Bool}{bk fl:Int}(h:chE n sh fl=0)(hb:0<=bk/\bk<(n.bs.length:Int)):alE n sh bk fl=0/\alO n sh bk fl=alB n sh bk fl:=by
 have e:alE n sh bk fl=0:=by unfold alE;rw[Tq h,Tq hb]
 exact⟨e,by unfold alO;rw[Tq e]⟩
theorem all_c{n:Aa}(sh:List Bool)(bk fl:Int)(hrw:RwV n):CT Uu 82 [] [Aj n,.lst (boL sh),.int .i64 bk,.int .i64 fl] [] (.tup [.bool (alO n sh bk fl),.int .i64 (alE n sh bk fl)]):=by
 refine all_ct n sh bk fl ([],_) (.val ?_);unfold OH;rw[Ab hrw];by_cases h:chE n sh fl=0
 case neg=>rw[Ag (Ui.2 h),(Qx h).1,(Qx h).2]
 obtain⟨hv,hl,hf⟩:=Lr h;have hb:=KO hv hl;have hc:=hv.cel;rw[Ad (by rw[h];rfl)];by_cases h1:bk<0
 .rw[Ag (AC h1),(JH h (by omega)).1,(JH h (by omega)).2]
 by_cases h2:(n.bs.length:Int)<=bk
 .rw[Ad (AD h1),Ag (AC (by rw[Tw];exact h2)),(JH h (by omega)).1,(JH h (by omega)).2]
 have hs:=Az true (show bk.toNat<sh.length by omega);have hL:=A9 sh;have e:(Uq (min (boL sh).length (boL sh).length) sh++Up (0+min (boL sh).length (boL sh).length) (Uo (boL sh).length false)).set (0+bk.toNat) true=wth sh bk:=by rw[hL,Nat.min_self,List.take_length,TI,TI,List.drop_of_length_le (by simp),List.append_nil];rfl
 rw[Ad (AD h1),Ad (AD (by rw[Tw];exact h2)),(Mc h ⟨by omega,by omega⟩).1,(Mc h ⟨by omega,by omega⟩).2,Ab (by omega),Ar hs,e];unfold alB;cases sh.getD bk.toNat true with
 | true=>rfl
 | false=>have hc2:chE n (wth sh bk) fl=0:=MP hv (by rw[QQ];exact hl) hf;rw[Ad (by rfl),Ab (by rw[hL];simp only[iN];omega),Ab (by rw[hL];simp only[iN];omega),Ab (OV sh),Ab (by rw[hL];simp only[iN];omega),Ab (show Nat.le _ _ from(show 0+bk.toNat+1<=_ by simp only[List.nil_append,TQ,TY,Th,TR,hL];omega)),hc2];unfold caO;rw[Tq hc2];rfl
inductive FM where | l0 (v0 v1:Int)
def rPlSt(n:Aa)(sh:List Bool)(hm:List Int)(sp:Int):FM->St | .l0 v0 v1=>St.mk 47 [(2,Ut (Un iv hm)),(3,iv sp),(9,iv v0),(10,iv v1)] []
def NX(n:Aa)(sh:List Bool)(hm:List Int)(sp:Int):Option (FM⊕Ret):=gu (0<=sp) <|el (n.ss) (sp.toNat) fun(x14:Au)=>br (!x14.dep) (some (.inr ([],iV 0))) (gu (Aq n) <|gu (sh.length=Ao n) <|gu (0<=sp/\sp<iN n.ss.length) <|br (!opB n sh sp) (some (.inr ([],iV 0))) (el (n.ss) (sp.toNat) fun(x28:Au)=>some (.inl (.l0 (x28.k) ((0:Int))))))
def Hn(n:Aa)(sh:List Bool)(hm:List Int)(sp v0 v1:Int):Option (FM⊕Ret):=br (decide (v1<iN (Un iV hm).length)) (gu (0<=v1) <|el (hm) (v1.toNat) fun(x39:Int)=>br (x39==sp) (some (.inl (.l0 (i64.wrap (v0-1)) (i64.wrap (v1+1))))) (some (.inl (.l0 v0 (i64.wrap (v1+1)))))) (some (.inr ([],iV (if v0<0 then 0 else v0))))
def Qr(n:Aa)(sh:List Bool)(hm:List Int)(sp:Int):FM->Option (FM⊕Ret) | .l0 v0 v1=>Hn n sh hm sp v0 v1
theorem rPl_ct(n:Aa)(sh:List Bool)(hm:List Int)(sp:Int)(r:Ret)(h:Ac (Qr n sh hm sp) (NX n sh hm sp) r):CT Uu 115 ([]) ([Aj n,.lst (boL sh),lI hm,.int .i64 sp]) r.1 r.2:=
 CT.mach (fn:=Tryz.f115) (c:=zB Tryz.f115) (S:=(rPlSt n sh hm sp)) (hd:=FM.ctorIdx) Tryz.func115 (by kernel_rfl) (nL rfl)
  (fun s o ho=>match s,ho with
 | .l0 v0 v1,ho=>Scr.ok (X:=Hn n sh hm sp v0 v1) ho mix (
 .rn 0 [] [] [] [] (al (u2 (u2 (u2 (al t3))))) <|
 .br (fun a0=>
 .gu fun a1=>
 .el fun x39 a2=>
 .rn 0 [69] [(39,iv x39)] [] [] (aj a0 (al (u2 (u2 (aj (k2 (aj a1 (Af (f:=iv) a2))) (u2 (u2 (al t3)))))))) <|
 .br (fun a3=>
  .lp [85] [] [] [] [] [] [2,3,9,10] (aj (aj a3 (aj (u2 (u2 s2)) (al (u2 (u2 s2))))) t5))
 (fun a3=>
  .lp [84] [] [] [] [] [] [2,3,9,10] (aj (aj a3 (al (u2 (u2 s2)))) t5)))
 (fun a0=>
 .rt [68] [] [] [] [] [] (aj (aj a0 (al (u2 (u2 s2)))) t2))) (by kernel_rfl)
  )
  (fun o ho=>Scr.ok (X:=NX n sh hm sp) ho mix (
 .rn 0 [] [] [] [] (al (u2 t2)) <|
 .gu fun a0=>
 .el fun x14 a1=>
 .br (fun a2=>
 .rt [37] [(14,sA x14)] [] [] [] [] (aj (aj (u2 (u2 (u2 (aj (k2 (aj a0 (Af (f:=sA) a1))) (u2 (u2 (u2 (u2 (aj a2 (aj a2 (aj a2 (aj a2 (aj a2 (al (aj a2 t2))))))))))))))) (ak s2)) t2))
 (fun a2=>
 .gu fun a3=>
 .gu fun a4=>
 .gu fun a5=>
 have c0:=IZ n (sh) (sp) a3 a4 a5;
 .rn 0 [36] [(14,sA x14)] [(22,hK c0 [] [])] [] (al (u2 (u2 (u2 (aj (k2 (aj a0 (Af (f:=sA) a1))) (u2 (u2 (u2 (u2 (ag a2 (ag a2 (ag a2 (aj (aj a2 (k3 (aj t9 (k2 (al (c0)))))) (ag a2 (al (aj a2 t2)))))))))))))))) <|
 .br (fun a6=>
  .rt [36,49] [] [] [] [] [] (aj (aj a6 s2) t2))
 (fun a6=>
  .el fun x28 a7=>
  .lp [36,48] [(28,sA x28)] [] [] [] [] [2,3,9,10] (aj (aj a6 (aj (u2 (u2 (u2 (aj (k2 (aj a0 (Af (f:=sA) a7))) (u2 (u2 s2)))))) s2)) t5)))) (by kernel_rfl)) h
def dpB(n:Aa)(x:Int):Bool:=decide (0<=x)&&match n.ss[x.toNat]? with | some s=>s.dep | none=>false
def odB(n:Aa)(sh:List Bool)(sp:Int):Bool:=opB n sh sp&&dpB n sp
def hcZ(hm:List Int)(sp:Int)(i:Nat):Int:=((hm.take i).filter (fun x=>x==sp)).length
theorem hcZ_succ{hm:List Int}{sp:Int}{i:Nat}{x:Int}(hx:hm[i]?=some x):hcZ hm sp (i+1)=hcZ hm sp i+if x==sp then 1 else 0:=by unfold hcZ;rw[List.take_add_one,hx,Option.toList_some,List.filter_append,TQ];cases h:x==sp<;>simp[List.filter,h]
theorem hcZ_bd(hm:List Int)(sp:Int)(i:Nat):0<=hcZ hm sp i/\hcZ hm sp i<=hm.length:=by unfold hcZ;have h:=List.length_filter_le (fun x=>x==sp) (hm.take i);rw[TY] at h;omega
def plV(k:Int)(hm:List Int)(sp:Int):Int:=if k-hcZ hm sp hm.length<0 then 0 else k-hcZ hm sp hm.length
def slk(n:Aa)(sp:Int):Int:=match n.ss[sp.toNat]? with | some s=>s.k | none=>0
def plZ(n:Aa)(sh:List Bool)(hm:List Int)(sp:Int):Int:=if odB n sh sp=true then plV (slk n sp) hm sp else 0
theorem Rn(n:Aa)(sh:List Bool)(hm:List Int)(sp:Int)(hv:Aq n)(hl:sh.length=Ao n)(h:0<=sp/\sp<n.ss.length)(h8:hm.length<=1000):CT Uu 115 [] [Aj n,.lst (boL sh),lI hm,.int .i64 sp] [] (.int .i64 (plZ n sh hm sp)):=by
 refine rPl_ct n sh hm sp ([],_) ?_;obtain⟨s,hs⟩:∃s,n.ss[sp.toNat]?=some s:=⟨_,Tt (by omega)⟩;have hs':n.ss[sp.toNat]?=some s:=hs;have sb:=hv.sb hs;unfold NX plZ odB dpB slk;rw[Ab h.1,Ar hs,hs,AC h.1];show Ac _ _ (([],.int .i64 (if (opB n sh sp&&(true&&s.dep))=true then plV s.k hm sp else 0)):Ret);cases hd:s.dep with
 | false=>rw[Ag (by rfl),Bool.and_false,Bool.and_false];exact .ret _
 | true=>
  rw[Ad (by rfl),Ab hv,Ab hl,Ab h];cases ho:opB n sh sp with
  | false=>exact .ret _
  | true=>
   rw[Ad (by rfl),Ar hs,Tq (by rfl)];unfold plV;have e0:s.k=s.k-hcZ hm sp 0:=by unfold hcZ;simp
   suffices hh:Ac (Qr n sh hm sp) (some (.inl (.l0 (s.k-hcZ hm sp 0) ((0:Nat):Int)))) (([],.int .i64 (if s.k-hcZ hm sp hm.length<0 then 0 else s.k-hcZ hm sp hm.length)):Ret) by rw[<-e0] at hh;exact hh
   refine Br (fun i=>FM.l0 (s.k-hcZ hm sp i) (i:Int)) hm.length (fun i hi hr=>.to ?_ hr) (.to ?_ (.ret _))
   .obtain⟨x,hx⟩:∃x,hm[i]?=some x:=⟨_,Tt hi⟩;have b:=hcZ_bd hm sp i;show Hn n sh hm sp _ i=_;unfold Hn;rw[AZ hx,hcZ_succ hx,zW i (by omega),A5 (s.k-hcZ hm sp i-1) (by omega) (by omega)];cases x==sp with
    | false=>simp[br]
    | true=>simp only[br,if_true];rw[show s.k-hcZ hm sp i-1=s.k-(hcZ hm sp i+1) by omega]
   .show Hn n sh hm sp _ hm.length=_;unfold Hn;rw[AQ]
end Go.Proofs.YthjgbnbibebigaaGreat
