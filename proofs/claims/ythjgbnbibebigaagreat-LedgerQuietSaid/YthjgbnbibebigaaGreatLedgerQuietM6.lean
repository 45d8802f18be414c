/- Parts of the proof:RqA,Rqam,RqB,Cz1m,CzA,Rq1m,Rq2m,RqC,SpA,SpB,Sg1m,SgA,SgB,Sg2m,SgC,SgD,SgE,SgH,Rp1m,RpA,Rp2m,RpB,Rp3m,RpC,Sg3m,SgF,Leam,Leb,Lecm,LeF,Cz2m,CzB,Cl1m,RqD,ClA,Cl2m,ClB,Cl3m,ClC,Cl4m. -/
import Derived.KernelRfl
import Derived.Test.YthjgbnbibebigaaGreatProg
import Derived.Test.YthjgbnbibebigaaGreatLedgerQuietM5
noncomputable section
set_option linter.unusedVariables false
set_option linter.unusedSimpArgs false
open Go Go.AX Go.Proofs
set_option maxRecDepth 100000
set_option linter.unusedVariables false
set_option linter.unusedSimpArgs false
open Go.IntKind (i64 u64)
open List renaming map->Wn,replicate->Wo,drop->Wp,take->Wq
open Int renaming toNat->Ws
open Go.AX.AV renaming lst->Wt
open Go.Proofs.Tryz renaming prog->Wu
namespace Go.Proofs.YthjgbnbibebigaaGreat
theorem _root_.Go.AX.BC.av{P:Program}{m:Nat}{ops:Array Oper}{o:Oper}{r:List Oper}{n d:Nat}{fr:List (Nat×AV)}{hp:List (Option Blk)}{k:St->Prop}(v:AV)(hg:o.guard=none)(ho:o.dst=some d)(hd:Nat.ble (d+1) n=true)(h:aop P o (St.ev ⟨n,fr,hp⟩) hp .no=some ({v},True))(q:BC P m ops r ⟨n,(d,v)::fr,hp⟩ k):BC P m ops (o::r) ⟨n,fr,hp⟩ k:=.val (noG hg) ho (VU hd) ((P0 h trivial).1.dn rfl) q
def bsA(m:Nat->Bool)(n:Nat):List AV:=(List.range n).map fun k=>.bool (m k)
theorem Gy(m:Nat->Bool)(n:Nat):(bsA m n).length=n:=by unfold bsA;simp
theorem PO(m:Nat->Bool){n k:Nat}(h:k<n):(bsA m n)[k]?=some (.bool (m k)):=by unfold bsA;rw[VF,VS h];rfl
theorem SL(n:Nat):Wo n (AV.bool false)=bsA (fun _=>false) n:=by unfold bsA;rw[List.map_const',We]
theorem Sj(m:Nat->Bool)(n x:Nat):(bsA m n).set (0+x) (.bool true)=bsA (B3 m x) n:=by
 rw[VL];refine List.ext_getElem? fun k=>?_
 rw[Wk,Gy];by_cases hk:k<n
 .rw[PO _ hk,PO _ hk,BH];by_cases hx:x=k
  .subst hx;rw[Vt rfl,Vt hk,Vt rfl]
  .rw[Vu hx,Vu (fun e=>hx e.symm)]
 .rw[VT (by rw[Gy];omega),VT (by rw[Gy];omega)];split
  .rw[Vu (by omega)]
  .rfl
theorem Ei:tsz Wu 4=some (1,false):=by kernel_rfl
theorem El:Bv Wu 34=some (none,1):=by kernel_rfl
def rqS(g:List (List Int))(s:List Bool)(i q b:Nat)(hp:List (Option Blk)):St:=⟨Tryz.f161.ntmps,[(0,.lst (gL g)),(1,.lst (boL s)),(7,.sl 0 0 (gL g).length),(8,.sl b i q)],hp⟩
def rqJ(g:List (List Int))(s:List Bool)(i q b:Nat)(x:Int)(k:Nat)(hp:List (Option Blk)):St:=⟨Tryz.f161.ntmps,[(0,.lst (gL g)),(1,.lst (boL s)),(7,.sl 0 0 (gL g).length),(8,.sl b i q),(9,.int .i64 x),(10,.int .i64 (k:Int))],hp⟩
structure RqI(g:List (List Int))(m:Nat->Bool)(es:List AV)(st:List Int)(i b:Nat)(hp:List (Option Blk)):Prop where
 top:nth hp 0=some (Blk.mk (bsA m g.length) 1 true true none)
 blk:nth hp b=some (Blk.mk es 1 true true none)
 pos:1<=b
 dr:es.drop i=st.map (AV.int .i64)
 siz:es.length+cUn m 24<=24
 le:i<=es.length
structure RqX where
 m:Nat->Bool
 es:List AV
 st:List Int
 i:Nat
 b:Nat
 hp:List (Option Blk)
theorem QT{n N:Nat}{es:List AV}{hp:List (Option Blk)}(h:nth hp 0=some (Blk.mk es 1 true true none))(hn:N=es.length):Ren 0 ⟨n,[(0,.sl 0 0 N)],hp⟩ ⟨n,[(0,.lst es)],[]⟩:=by
 refine Ren.of (p:=N=es.length/\True) [] [0] [0] ?_ ⟨hn,trivial⟩ rfl rfl rfl;have e:A6 [] [0] hp 3 (.sl 0 0 N)=(.lst es,N=es.length):=by
  show(match DA [] [0] hp 0 0 N with | some x=>x | none=>(AV.unk,True))=_;have:DA [] [0] hp 0 0 N=some (.lst es,N=es.length):=by unfold DA;show(match Bf [0] 0,nth hp 0 with | true,some blk=>_ | _,_=>none)=_;rw[h];rfl
  rw[this]
 show(match DT [] [0] hp with | some hp'=>_ | none=>none)=_;show some _=_;simp only[Vr,Vs,AX.Av,Nat.beq_refl,e,List.foldr]
theorem SW{m:Nat->Bool}{g:List (List Int)}{es:List AV}{st:List Int}{i b:Nat}{hp:List (Option Blk)}(h:RqI g m es st i b hp):st.length=es.length-i:=by have:=congrArg List.length h.dr;rw[Vl,Vy] at this;exact this.symm
theorem reach_ct{g:List (List Int)}{s:List Bool}(hg:GOk g)(hs:s.length=g.length){v:Nat}(hv:v<g.length):CT Wu 161 [] [.lst (gL g),.lst (boL s),.int .i64 (v:Int)] [] (.lst (boL ((List.range g.length).map (mkB g s v)))):=by
 have h24:=hg.len;have hlg:(gL g).length=g.length:=B4 g;have hbo:boL ((List.range g.length).map (mkB g s v))=bsA (mkB g s v) g.length:=by unfold boL bsA;rw[List.map_map];rfl
 rw[hbo];have gsA:∀x:Nat,x<g.length->(boL s)[x]?=some (.bool (s.getD x true)):=fun x hx=>by unfold boL;rw[VF,Ay true (by omega)];rfl
 have hsv:=gsA v hv;refine CT.of Tryz.func161 (show Tryz.f161.body=some (zB Tryz.f161) from by kernel_rfl) (nL rfl) ?_;refine T.seq ?_;refine T.ops (st':=?su1) ?steps1 ?post1
 case steps1=>refine .av (.nils) rfl rfl rfl (by kernel_rfl) ?_;exact .nil _
 show T Wu 0 _ _ _;refine T.seq ?_;refine T.ops (st':=?su2) ?steps2 ?post2
 case steps2=>refine .av (.lst (gL g)) rfl rfl rfl (by kernel_rfl) ?_;refine .av (.int .i64 (iN (gL g).length)) rfl rfl rfl (by kernel_rfl) ?_;refine .new (v:=.sl 0 0 (gL g).length) (blk:=bK (Wo (gL g).length (.bool false)) 1) rfl rfl (nL rfl) (B0 rfl (hint:=.no) (R:={v:=.sl 0 0 (gL g).length,new:=[bK (Wo (gL g).length (.bool false)) 1]}) (p:=0<=iN (gL g).length/\iN (gL g).length<=iN (gL g).length/\((1:Nat):Int) * iN (gL g).length<=281474976710656/\iN (gL g).length<=9223372036854775807) (by kernel_rfl) (by simp only[iN,hlg];omega)).1 ?_;refine .av (.sl 0 0 (gL g).length) rfl rfl rfl (by kernel_rfl) ?_;exact .nil _
 show T Wu 0 _ _ _;refine T.seq (T.seq ?_);cases hsb:s.getD v true with
 | true=>
  refine T.ops (st':=?su3) ?steps3 ?post3
  case steps3=>refine .av (.lst (boL s)) rfl rfl rfl (by kernel_rfl) ?_;refine .av (.int .i64 (v:Int)) rfl rfl rfl (by kernel_rfl) ?_;refine .va (.iptr [.bool true]) rfl rfl rfl (C2 (es:=boL s) (m:=(v:Int)) (e:=.bool true) rfl rfl rfl El (by omega) (by rw[VE,hsv,hsb]) rfl) ?_;refine .va (.bool true) rfl rfl rfl (Db rfl rfl Ei rfl rfl) ?_;exact .nil _
  show T Wu 0 _ _ _;refine T.cond_true rfl (T.seq ?_);refine T.ops (st':=?su4) ?steps4 ?post4
  case steps4=>refine .av (.sl 0 0 (gL g).length) rfl rfl rfl (by kernel_rfl) ?_;refine .av (.sl 0 0 (gL g).length) rfl rfl rfl (by kernel_rfl) ?_;exact .nil _
  show T Wu 0 _ _ _;have hno:mkB g s v=fun _=>false:=by
   funext k;refine Pn fun h=>?_
   have:s.getD v true=false:=by
    clear hsv;induction h with
    | refl h=>exact h
    | step _ _ _ ih=>exact ih
   rw[hsb] at this;cases this
  rw[hno];refine T.ret ?_;refine⟨.inr rfl,.sl 0 0 (gL g).length,⟨Tryz.f161.ntmps,[(0,.lst (bsA (fun _=>false) g.length))],[]⟩,rfl,QT (by rw[<-SL,<-hlg];rfl) (by rw[Gy,hlg]),rfl,rfl,(nL rfl)⟩
 | false=>
  refine T.ops (st':=?su5) ?steps5 ?post5
  case steps5=>refine .av (.lst (boL s)) rfl rfl rfl (by kernel_rfl) ?_;refine .av (.int .i64 (v:Int)) rfl rfl rfl (by kernel_rfl) ?_;refine .va (.iptr [.bool false]) rfl rfl rfl (C2 (es:=boL s) (m:=(v:Int)) (e:=.bool false) rfl rfl rfl El (by omega) (by rw[VE,hsv,hsb]) rfl) ?_;refine .va (.bool false) rfl rfl rfl (Db rfl rfl Ei rfl rfl) ?_;exact .nil _
  show T Wu 0 _ _ _;refine T.cond_false rfl (T.skip ?_);show T Wu 0 _ _ _;refine T.seq ?_;refine T.ops (st':=?su6) ?steps6 ?post6
  case steps6=>
   refine .av (.sl 0 0 (gL g).length) rfl rfl rfl (by kernel_rfl) ?_;refine .av (.int .i64 (v:Int)) rfl rfl rfl (by kernel_rfl) ?_;refine .va (.ptr 0 (0+v) 0) rfl rfl rfl (DF (m:=(v:Int)) rfl rfl rfl El (h:=nth [some (bK (Wo (gL g).length (.bool false)) 1)]) rfl rfl ⟨by omega,by omega⟩) ?_;refine .chg (v:=.unk) (blk:=bK ((Wo (gL g).length (bV false)).set (0+v) (.bool true)) 1) rfl rfl (b:=0) rfl rfl ?_ ?_
   rotate_left
   exact .nil _;exact Mm (x:=.tmp 22) (y:=.const (.bool true)) (e:=.bool true) (b:=0) (i:=0+v) (j:=0) (flat:=true) (blk:=bK (Wo (gL g).length (.bool false)) 1) rfl rfl rfl rfl Ei rfl rfl rfl (show 0+v<(Wo (gL g).length (bV false)).length by rw[VQ];omega) (VH _) rfl (fun kk c hc=>.inl (by
    match kk,hc with
    | 0,hc=>exact⟨VH _,Nat.lt_add_one _,hc⟩)) rfl
  show T Wu 0 _ _ _;refine T.seq ?_;refine T.ops (st':=?su7) ?steps7 ?post7
  case steps7=>refine .av (.int .i64 (v:Int)) rfl rfl rfl (by kernel_rfl) ?_;refine .new (v:=.sl 1 0 1) (blk:=bK [.int .i64 (v:Int)] 1) rfl rfl (nL rfl) (Gq rfl (by kernel_rfl)) ?_;refine .av (.sl 1 0 1) rfl rfl rfl (by kernel_rfl) ?_;exact .nil _
  show T Wu 0 _ _ _;refine T.seq ?_;refine T.block ?_;refine T.ren (st':=rqS g s 0 1 1 [some (bK ((Wo (gL g).length (bV false)).set (0+v) (.bool true)) 1),some (bK [.int .i64 (v:Int)] 1)]) (Ren.keys ⟨rfl,rfl,rfl,rfl,trivial⟩) ?_;have hc0:=KK (m:=fun _=>false) (x:=v) rfl 24;rw[Vt (by omega)] at hc0;have h0:cUn (fun _=>false) 24=24:=by decide
  have hJ0:FdJ g s v (B3 (fun _=>false) v) [(v:Int)] (fun _=>False):=by
   refine⟨fun k hk=>?_,by rw[BH,Vt rfl],fun x hx=>?_,fun u hu hn _ w hw ho=>?_,?_⟩
   .rw[BH] at hk;split at hk
    .rename_i e;subst e;exact .refl hsb
    .cases hk
   .rw[Vn.1 hx];exact⟨by omega,by omega,by rw[VE,BH,Vt rfl]⟩
   .rw[BH] at hu;split at hu
    .rename_i e;subst e;exact absurd (Vn.2 rfl) hn
    .cases hu
   .show 1+cUn (B3 (fun _=>false) v) 24<=24;omega
  refine T.loop (fun X:RqX=>rqS g s X.i X.st.length X.b X.hp) (fun X=>RqI g X.m X.es X.st X.i X.b X.hp/\FdJ g s v X.m X.st (fun _=>False)) (fun X=>2 * cUn X.m 24+X.st.length) ⟨B3 (fun _=>false) v,[.int .i64 (v:Int)],[(v:Int)],0,1,_⟩ ⟨⟨?_,rfl,VH _,rfl,?_,VI _⟩,hJ0⟩ ?_
  .show some _=_;rw[SL,Sj,hlg]
  .show 1+cUn (B3 (fun _=>false) v) 24<=24;omega
  rintro⟨m,es,st,i,b,hp⟩ ⟨hI,hJ⟩
  simp only at hI hJ;have hht:=SW hI;refine T.seq (T.seq ?_);refine T.ops (st':=?su8) ?steps8 ?post8
  case steps8=>refine .av (.sl b i st.length) rfl rfl rfl (by kernel_rfl) ?_;refine .av (.int .i64 (iN st.length)) rfl rfl rfl (by kernel_rfl) ?_;refine .av (.bool (decide ((0:Int)<iN st.length))) rfl rfl rfl (by kernel_rfl) ?_;exact .nil _
  show T Wu 0 _ _ _;refine T.cond_split (b:=decide ((0:Int)<iN st.length)) rfl (fun hlt=>T.skip ?_) (fun hge=>T.exit ?_)
  .have hpos:0<st.length:=by have:=of_decide_eq_true hlt;simp only[iN] at this;omega
   obtain⟨x,su1,rfl⟩:=List.exists_cons_of_length_pos hpos;have hxe:es[i+(0:Int).toNat]?=some (.int .i64 x):=by have:=congrArg (fun l:List AV=>l[0]?) hI.dr;simpa using this
   have hdr1:es.drop (i+1)=su1.map (AV.int .i64):=by have:=congrArg (Wp 1) hI.dr;rw[Vh] at this;simpa using this
   obtain⟨x0,x1,x2⟩:=hJ.stk x (List.mem_cons_self ..);have hxl:x.toNat<g.length:=by omega
   obtain⟨hr1,hr2⟩:=hg.row x.toNat hxl;have hgl:=SN hxl;generalize hrr:g.getD x.toNat []=r at hgl hr1 hr2;show T Wu 0 _ _ _;refine T.block ?_;refine T.seq ?_;refine T.ops (st':=?su9) ?steps9 ?post9
   case steps9=>refine .av (.sl b i (x::su1).length) rfl rfl rfl (by kernel_rfl) ?_;refine .va (.ptr b (i+(0:Int).toNat) 0) rfl rfl rfl (DF (m:=0) rfl rfl rfl LB hI.blk rfl ⟨by omega,by omega⟩) ?_;refine .va (.int .i64 x) rfl rfl rfl (EC rfl rfl hI.blk hxe tsz3 rfl rfl) ?_;refine .av (.int .i64 x) rfl rfl rfl (by kernel_rfl) ?_;exact .nil _
   show T Wu 0 _ _ _;refine T.seq ?_;refine T.ops (st':=?su10) ?steps10 ?post10
   case steps10=>refine .av (.sl b i (x::su1).length) rfl rfl rfl (by kernel_rfl) ?_;refine .va (.sl b (i+(1:Int).toNat) ((((x::su1).length:Nat):Int).toNat-(1:Int).toNat)) rfl rfl rfl (P2 (l:=1) (u:=(((x::su1).length:Nat):Int)) (m:=(((x::su1).length:Nat):Int)) rfl rfl LB hI.blk rfl rfl rfl rfl (fun h=>by cases h) ⟨by omega,by omega,by omega,by omega⟩) ?_;refine .av (.sl b (i+(1:Int).toNat) ((((x::su1).length:Nat):Int).toNat-(1:Int).toNat)) rfl rfl rfl (by kernel_rfl) ?_;exact .nil _
   show T Wu 0 _ _ _;refine T.seq ?_;refine T.ops (st':=?su11) ?steps11 ?post11
   case steps11=>refine .av (.int .i64 0) rfl rfl rfl (by kernel_rfl) ?_;exact .nil _
   show T Wu 0 _ _ _;refine T.block ?_;refine T.ren (st':=rqJ g s (i+1) su1.length b x 0 hp) (Ren.keys ⟨rfl,rfl,rfl,(by show AV.sl b (i+1) su1.length=AV.sl b (i+(1:Int).toNat) ((((x::su1).length:Nat):Int).toNat-(1:Int).toNat);rw[VE,Wa];rfl),rfl,rfl,trivial⟩) ?_;refine T.loop (fun Y:Nat×RqX=>rqJ g s Y.2.i Y.2.st.length Y.2.b x Y.1 Y.2.hp) (fun Y=>Y.1<=r.length/\RqI g Y.2.m Y.2.es Y.2.st Y.2.i Y.2.b Y.2.hp/\FdJ g s v Y.2.m Y.2.st (fun u=>u=x.toNat)/\Y.2.m x.toNat=true/\(∀(j:Nat) (w:Int),j<Y.1->r[j]?=some w->s.getD w.toNat true=false->Y.2.m w.toNat=true)/\2 * cUn Y.2.m 24+Y.2.st.length<2 * cUn m 24+(x::su1).length) (fun Y=>r.length-Y.1) (0,⟨m,es,su1,i+1,b,hp⟩) ⟨VI _,⟨hI.top,hI.blk,hI.pos,hdr1,hI.siz,by rw[Wa] at hht;show i+1<=es.length;omega⟩,⟨hJ.sound,hJ.start,fun y hy=>hJ.stk y (VN _ hy),fun u hu hn hex w hw ho=>?_,?_⟩,x2,fun j w hj=>absurd hj (Wl _),?_⟩ ?_
   .refine hJ.closed u hu (fun h=>?_) (fun e=>e) w hw ho;rcases VY.1 h with h | h
    .exact hex (by omega)
    .exact hn h
   .have:=hJ.size;rw[Wa] at this;show su1.length+cUn m 24<=24;omega
   .show 2 * cUn m 24+su1.length<2 * cUn m 24+(x::su1).length;rw[Wa];omega
   rintro⟨k,⟨m2,es2,su2,i2,b2,hp2⟩⟩ ⟨hk,hI2,hJ2,hmx,hdone,hmu⟩
   simp only at hk hI2 hJ2 hmx hdone hmu;have hht2:=SW hI2;refine T.seq (T.seq ?_);refine T.ops (st':=?su12) ?steps12 ?post12
   case steps12=>refine .av (.int .i64 (k:Int)) rfl rfl rfl (by kernel_rfl) ?_;refine .av (.lst (gL g)) rfl rfl rfl (by kernel_rfl) ?_;refine .av (.int .i64 x) rfl rfl rfl (by kernel_rfl) ?_;refine .va (.iptr [lI r]) rfl rfl rfl (C2 (es:=gL g) (m:=x) (e:=lI r) rfl rfl rfl Fw (by omega) hgl rfl) ?_;refine .va (lI r) rfl rfl rfl (Db rfl rfl Ff rfl rfl) ?_;refine .av (.int .i64 (iN (r.map (AV.int .i64)).length)) rfl rfl rfl (by kernel_rfl) ?_;refine .av (.bool (decide ((k:Int)<iN (r.map (AV.int .i64)).length))) rfl rfl rfl (by kernel_rfl) ?_;exact .nil _
   show T Wu 0 _ _ _;refine T.cond_split (b:=decide ((k:Int)<iN (r.map (AV.int .i64)).length)) rfl (fun hlt1=>T.skip ?_) (fun hge1=>T.exit ?_)
   .have hkl:k<r.length:=by have:=of_decide_eq_true hlt1;simp only[iN,Vy] at this;omega
    have hwk:r[k]?=some (r.getD k 0):=Ay 0 hkl;have hwm:r.getD k 0∈r:=Vz hwk;generalize hwd:r.getD k 0=w at hwk hwm;obtain⟨w0,w1⟩:=hr2 w hwm;have hwl:w.toNat<g.length:=by omega
    have hsw:=gsA w.toNat hwl;have hmw:=PO m2 hwl;show T Wu 0 _ _ _;refine T.seq ?_;refine T.block ?_;refine T.seq ?_;refine T.ops (st':=?su13) ?steps13 ?post13
    case steps13=>refine .av (.lst (gL g)) rfl rfl rfl (by kernel_rfl) ?_;refine .av (.int .i64 x) rfl rfl rfl (by kernel_rfl) ?_;refine .va (.iptr [lI r]) rfl rfl rfl (C2 (es:=gL g) (m:=x) (e:=lI r) rfl rfl rfl Fw (by omega) hgl rfl) ?_;refine .va (lI r) rfl rfl rfl (Db rfl rfl Ff rfl rfl) ?_;refine .av (.int .i64 (k:Int)) rfl rfl rfl (by kernel_rfl) ?_;refine .va (.iptr [.int .i64 w]) rfl rfl rfl (C2 (es:=r.map (AV.int .i64)) (m:=(k:Int)) (e:=.int .i64 w) rfl rfl rfl LB (by omega) (by rw[VE,VF,hwk];rfl) rfl) ?_;refine .va (.int .i64 w) rfl rfl rfl (Db rfl rfl tsz3 rfl rfl) ?_;refine .av (.int .i64 w) rfl rfl rfl (by kernel_rfl) ?_;exact .nil _
    show T Wu 0 _ _ _;refine T.seq ?_;cases hso:s.getD w.toNat true with
    | true=>
     refine T.opsN ?_;refine .av (.lst (boL s)) rfl rfl rfl (by kernel_rfl) ?_;refine .av (.int .i64 w) rfl rfl rfl (by kernel_rfl) ?_;refine .val (v:=.iptr [.bool true]) (noG rfl) rfl (nL rfl) (C2 (es:=boL s) (m:=w) (e:=.bool true) rfl rfl rfl El (by omega) (by rw[hsw,hso]) rfl) ?_;refine .val (v:=.bool true) (noG rfl) rfl (nL rfl) (Db rfl rfl Ei rfl rfl) ?_;refine .av (.bool false) rfl rfl rfl (by kernel_rfl) ?_;refine .av (.bool false) rfl rfl rfl (by kernel_rfl) ?_;refine .skp (kk:=5) (g:=54) (want:=true) rfl rfl rfl rfl (nL rfl) ?_;refine .skp (kk:=5) (g:=54) (want:=true) rfl rfl rfl rfl (nL rfl) ?_;refine .skp (kk:=5) (g:=54) (want:=true) rfl rfl rfl rfl (nL rfl) ?_;refine .skp (kk:=5) (g:=54) (want:=true) rfl rfl rfl rfl (nL rfl) ?_;refine .skp (kk:=5) (g:=54) (want:=true) rfl rfl rfl rfl (nL rfl) ?_;refine .av (.bool false) rfl rfl rfl (by kernel_rfl) ?_;refine .nil ?_;show T Wu 0 _ _ _;refine T.cond_false rfl (T.skip ?_);show T Wu 0 _ _ _;refine T.ops (st':=?su14) ?steps14 ?post14
     case steps14=>refine .av (.int .i64 (k:Int)) rfl rfl rfl (by kernel_rfl) ?_;refine .av (.int .i64 (i64.wrap ((k:Int)+1))) rfl rfl rfl (by kernel_rfl) ?_;refine .av (.int .i64 (i64.wrap ((k:Int)+1))) rfl rfl rfl (by kernel_rfl) ?_;exact .nil _
     show ∃j,_;refine⟨(k+1,⟨m2,es2,su2,i2,b2,hp2⟩),Ren.keys ⟨rfl,rfl,rfl,rfl,rfl,(by show AV.int .i64 ((k+1:Nat):Int)=AV.int .i64 (i64.wrap ((k:Int)+1));rw[zW k (by omega)]),trivial⟩,⟨hkl,hI2,hJ2,hmx,fun j w' hj hw' ho=>?_,hmu⟩,by show r.length-(k+1)<r.length-k;omega⟩
     .by_cases hjk:j=k
      .subst hjk;rw[hwk] at hw';cases hw';rw[hso] at ho;cases ho
      .exact hdone j w' (by omega) hw' ho
    | false=>
     cases hmv:m2 w.toNat with
     | true=>
      rw[hmv] at hmw;refine T.opsN ?_;refine .av (.lst (boL s)) rfl rfl rfl (by kernel_rfl) ?_;refine .av (.int .i64 w) rfl rfl rfl (by kernel_rfl) ?_;refine .val (v:=.iptr [.bool false]) (noG rfl) rfl (nL rfl) (C2 (es:=boL s) (m:=w) (e:=.bool false) rfl rfl rfl El (by omega) (by rw[hsw,hso]) rfl) ?_;refine .val (v:=.bool false) (noG rfl) rfl (nL rfl) (Db rfl rfl Ei rfl rfl) ?_;refine .av (.bool true) rfl rfl rfl (by kernel_rfl) ?_;refine .av (.bool true) rfl rfl rfl (by kernel_rfl) ?_;refine .val (v:=.sl 0 0 (gL g).length) (isG (kk:=5) (g:=54) rfl rfl rfl) rfl (nL rfl) (B0 rfl (hint:=.no) (R:={v:=.sl 0 0 (gL g).length}) (p:=True) (by kernel_rfl) trivial).1 ?_;refine .val (v:=.int .i64 w) (isG (kk:=5) (g:=54) rfl rfl rfl) rfl (nL rfl) (B0 rfl (hint:=.no) (R:={v:=.int .i64 w}) (p:=True) (by kernel_rfl) trivial).1 ?_;refine .val (v:=.ptr 0 (0+w.toNat) 0) (isG (kk:=5) (g:=54) rfl rfl rfl) rfl (nL rfl) (DF (m:=w) rfl rfl rfl El hI2.top rfl ⟨by omega,by omega⟩) ?_;refine .val (v:=.bool true) (isG (kk:=5) (g:=54) rfl rfl rfl) rfl (nL rfl) (EC rfl rfl hI2.top (by rw[VL];exact hmw) Ei rfl rfl) ?_;refine .val (v:=.bool false) (isG (kk:=5) (g:=54) rfl rfl rfl) rfl (nL rfl) (B0 rfl (hint:=.no) (R:={v:=.bool false}) (p:=True) (by kernel_rfl) trivial).1 ?_;refine .av (.bool false) rfl rfl rfl (by kernel_rfl) ?_;refine .nil ?_;show T Wu 0 _ _ _;refine T.cond_false rfl (T.skip ?_);show T Wu 0 _ _ _;refine T.ops (st':=?su15) ?steps15 ?post15
      case steps15=>refine .av (.int .i64 (k:Int)) rfl rfl rfl (by kernel_rfl) ?_;refine .av (.int .i64 (i64.wrap ((k:Int)+1))) rfl rfl rfl (by kernel_rfl) ?_;refine .av (.int .i64 (i64.wrap ((k:Int)+1))) rfl rfl rfl (by kernel_rfl) ?_;exact .nil _
      show ∃j,_;refine⟨(k+1,⟨m2,es2,su2,i2,b2,hp2⟩),Ren.keys ⟨rfl,rfl,rfl,rfl,rfl,(by show AV.int .i64 ((k+1:Nat):Int)=AV.int .i64 (i64.wrap ((k:Int)+1));rw[zW k (by omega)]),trivial⟩,⟨hkl,hI2,hJ2,hmx,fun j w' hj hw' ho=>?_,hmu⟩,by show r.length-(k+1)<r.length-k;omega⟩
      .by_cases hjk:j=k
       .subst hjk;rw[hwk] at hw';cases hw';exact hmv
       .exact hdone j w' (by omega) hw' ho
     | false=>
      rw[hmv] at hmw;refine T.opsN ?_;refine .av (.lst (boL s)) rfl rfl rfl (by kernel_rfl) ?_;refine .av (.int .i64 w) rfl rfl rfl (by kernel_rfl) ?_;refine .val (v:=.iptr [.bool false]) (noG rfl) rfl (nL rfl) (C2 (es:=boL s) (m:=w) (e:=.bool false) rfl rfl rfl El (by omega) (by rw[hsw,hso]) rfl) ?_;refine .val (v:=.bool false) (noG rfl) rfl (nL rfl) (Db rfl rfl Ei rfl rfl) ?_;refine .av (.bool true) rfl rfl rfl (by kernel_rfl) ?_;refine .av (.bool true) rfl rfl rfl (by kernel_rfl) ?_;refine .val (v:=.sl 0 0 (gL g).length) (isG (kk:=5) (g:=54) rfl rfl rfl) rfl (nL rfl) (B0 rfl (hint:=.no) (R:={v:=.sl 0 0 (gL g).length}) (p:=True) (by kernel_rfl) trivial).1 ?_;refine .val (v:=.int .i64 w) (isG (kk:=5) (g:=54) rfl rfl rfl) rfl (nL rfl) (B0 rfl (hint:=.no) (R:={v:=.int .i64 w}) (p:=True) (by kernel_rfl) trivial).1 ?_;refine .val (v:=.ptr 0 (0+w.toNat) 0) (isG (kk:=5) (g:=54) rfl rfl rfl) rfl (nL rfl) (DF (m:=w) rfl rfl rfl El hI2.top rfl ⟨by omega,by omega⟩) ?_;refine .val (v:=.bool false) (isG (kk:=5) (g:=54) rfl rfl rfl) rfl (nL rfl) (EC rfl rfl hI2.top (by rw[VL];exact hmw) Ei rfl rfl) ?_;refine .val (v:=.bool true) (isG (kk:=5) (g:=54) rfl rfl rfl) rfl (nL rfl) (B0 rfl (hint:=.no) (R:={v:=.bool true}) (p:=True) (by kernel_rfl) trivial).1 ?_;refine .av (.bool true) rfl rfl rfl (by kernel_rfl) ?_;refine .nil ?_;show T Wu 0 _ _ _;refine T.cond_true rfl (T.seq ?_);refine T.ops (st':=?su16) ?steps16 ?post16
      case steps16=>
       refine .av (.sl 0 0 (gL g).length) rfl rfl rfl (by kernel_rfl) ?_;refine .av (.int .i64 w) rfl rfl rfl (by kernel_rfl) ?_;refine .va (.ptr 0 (0+w.toNat) 0) rfl rfl rfl (DF (m:=w) rfl rfl rfl El hI2.top rfl ⟨by omega,by omega⟩) ?_;refine .chg (v:=.unk) (blk:=bK ((bsA m2 g.length).set (0+w.toNat) (.bool true)) 1) rfl rfl hI2.top rfl ?_ ?_
       rotate_left
       exact .nil _;exact Mm (x:=.tmp 63) (y:=.const (.bool true)) (e:=.bool true) rfl rfl hI2.top rfl Ei rfl rfl rfl (show 0+w.toNat<(bsA m2 g.length).length by rw[Gy];omega) (VH _) rfl (fun kk c hc=>.inl (by
        match kk,hc with
        | 0,hc=>exact⟨VH _,Nat.lt_add_one _,hc⟩)) rfl
      show T Wu 0 _ _ _;have hl2:=Dy hI2.blk;have hln1:(hp2.set 0 (some (bK ((bsA m2 g.length).set (0+w.toNat) (.bool true)) 1))).length=hp2.length:=by simp
      have hln2:((hp2.set 0 (some (bK ((bsA m2 g.length).set (0+w.toNat) (.bool true)) 1)))++[some (bK [.int .i64 w] 1)]).length=hp2.length+1:=by simp
      have hb1:nth ((hp2.set 0 (some (bK ((bsA m2 g.length).set (0+w.toNat) (.bool true)) 1)))++[some (bK [.int .i64 w] 1)]) b2=some (bK es2 1):=by rw[Cb,Vt (by simp;omega),Dd,Vu (fun e=>by have:=hI2.pos;omega)];exact hI2.blk
      have hb2:nth ((hp2.set 0 (some (bK ((bsA m2 g.length).set (0+w.toNat) (.bool true)) 1)))++[some (bK [.int .i64 w] 1)]) hp2.length=some (bK [.int .i64 w] 1):=by rw[Cb,Vu (by simp),V4,Vf];rfl
      have hsiz:=hI2.siz;refine T.opsN ?_;refine .av (.sl b2 i2 su2.length) rfl rfl rfl (by kernel_rfl) ?_;refine .av (.int .i64 w) rfl rfl rfl (by kernel_rfl) ?_;refine .new (v:=.sl (hp2.set 0 (some (bK ((bsA m2 g.length).set (0+w.toNat) (.bool true)) 1))).length 0 1) (blk:=bK [.int .i64 w] 1) (noG rfl) rfl (nL rfl) (Gq rfl (by kernel_rfl)) ?_;refine .q (b:=b2) (i:=i2) (z:=1) (es:=es2) (src:=[.int .i64 w]) (flat:=true) rfl rfl (nL rfl) hb1 rfl (VI _) ?_ fun es3 i3 e1 e2 e3=>?_
      .have hy:Ca (nth ((hp2.set 0 (some (bK ((bsA m2 g.length).set (0+w.toNat) (.bool true)) 1)))++[some (bK [.int .i64 w] 1)])) (.sl (hp2.set 0 (some (bK ((bsA m2 g.length).set (0+w.toNat) (.bool true)) 1))).length 0 1)=some [.int .i64 w]:=by unfold Ca;simp only[hln1,hb2];rfl
       have hf:BG (nth ((hp2.set 0 (some (bK ((bsA m2 g.length).set (0+w.toNat) (.bool true)) 1)))++[some (bK [.int .i64 w] 1)])) 1 (.sl (hp2.set 0 (some (bK ((bsA m2 g.length).set (0+w.toNat) (.bool true)) 1))).length 0 1):=by unfold BG;simp only[hln1,hb2];exact⟨trivial,VH _⟩
       have hsf:Bd (nth ((hp2.set 0 (some (bK ((bsA m2 g.length).set (0+w.toNat) (.bool true)) 1)))++[some (bK [.int .i64 w] 1)])) (.sl (hp2.set 0 (some (bK ((bsA m2 g.length).set (0+w.toNat) (.bool true)) 1))).length 0 1)=true:=by unfold Bd;simp only[hln1,hb2]
       exact UF (x:=.tmp 64) (y:=.tmp 66) (n:=su2.length) rfl Nd rfl hb1 rfl rfl (show i2+su2.length=es2.length by have:=hI2.le;omega) hy hf (by simp) (by show es2.length+1<=_;omega) (by show(es2.length+1) * 8<=_;omega) (by show(true&&Bd _ (.sl (hp2.set 0 (some (bK ((bsA m2 g.length).set (0+w.toNat) (.bool true)) 1))).length 0 1))=true;rw[hsf];rfl)
      refine .av (.sl ((hp2.set 0 (some (bK ((bsA m2 g.length).set (0+w.toNat) (.bool true)) 1)))++[some (bK [.int .i64 w] 1)]).length i3 (es3.length-i3)) rfl rfl rfl (by kernel_rfl) ?_;refine .nil ?_;have hln3:es3.length-i3=(su2++[w]).length:=by have:=congrArg List.length e2;rw[Vl,hI2.dr,VP,Vy] at this;rw[VP];simpa using this
      have hcu:=KK hmv 24;rw[Vt (by omega)] at hcu;have hup:∀u,m2 u=true->B3 m2 w.toNat u=true:=fun u hu=>by rw[BH];split<;>first | rfl | exact hu
      have hwx:w.toNat≠x.toNat:=fun e=>by rw[e,hmx] at hmv;cases hmv
      have hln4:(su2++[w]).length=su2.length+1:=by simp
      have hsz2:=hJ2.size;have e3':es3.length<=es2.length+1:=e3;have hJ3:FdJ g s v (B3 m2 w.toNat) (su2++[w]) (fun u=>u=x.toNat):=by
       refine⟨fun u hu=>?_,hup _ hJ2.start,fun y hy=>?_,fun u hu hn hex z hz ho=>?_,by omega⟩
       .rw[BH] at hu;split at hu
        .rename_i e;subst e;exact .step (hJ2.sound _ hmx) (by rw[hrr,VW w0];exact hwm) hso
        .exact hJ2.sound u hu
       .rcases VZ.1 hy with h | h
        .obtain⟨a,b,c⟩:=hJ2.stk y h;exact⟨a,b,hup _ c⟩
        .rw[Vn.1 h];exact⟨w0,w1,by rw[BH,Vt rfl]⟩
       .have hne:u≠w.toNat:=fun e=>hn (by rw[e,VW w0];simp)
        rw[BH,Vu hne] at hu;exact hup _ (hJ2.closed u hu (fun h=>hn (List.mem_append_left _ h)) hex z hz ho)
      show T Wu 0 _ _ _;refine T.ops (st':=?su17) ?steps17 ?post17
      case steps17=>refine .av (.int .i64 (k:Int)) rfl rfl rfl (by kernel_rfl) ?_;refine .av (.int .i64 (i64.wrap ((k:Int)+1))) rfl rfl rfl (by kernel_rfl) ?_;refine .av (.int .i64 (i64.wrap ((k:Int)+1))) rfl rfl rfl (by kernel_rfl) ?_;exact .nil _
      show ∃j,_;refine⟨(k+1,⟨B3 m2 w.toNat,es3,su2++[w],i3,((hp2.set 0 (some (bK ((bsA m2 g.length).set (0+w.toNat) (.bool true)) 1)))++[some (bK [.int .i64 w] 1)]).length,(((hp2.set 0 (some (bK ((bsA m2 g.length).set (0+w.toNat) (.bool true)) 1)))++[some (bK [.int .i64 w] 1)]).set b2 none++[some (bK es3 1)])⟩),Ren.keys ⟨rfl,rfl,rfl,(by show AV.sl ((hp2.set 0 (some (bK ((bsA m2 g.length).set (0+w.toNat) (.bool true)) 1)))++[some (bK [.int .i64 w] 1)]).length i3 (su2++[w]).length=AV.sl ((hp2.set 0 (some (bK ((bsA m2 g.length).set (0+w.toNat) (.bool true)) 1)))++[some (bK [.int .i64 w] 1)]).length i3 (es3.length-i3);rw[hln3]),rfl,(by show AV.int .i64 ((k+1:Nat):Int)=AV.int .i64 (i64.wrap ((k:Int)+1));rw[zW k (by omega)]),trivial⟩,⟨hkl,⟨?_,?_,?_,?_,?_,e1⟩,hJ3,hup _ hmx,fun j w' hj hw' ho=>?_,?_⟩,by show r.length-(k+1)<r.length-k;omega⟩
      .show nth (((hp2.set 0 (some (bK ((bsA m2 g.length).set (0+w.toNat) (.bool true)) 1)))++[some (bK [.int .i64 w] 1)]).set b2 none++[some (bK es3 1)]) 0=_;rw[Cb,Vt (by simp),Dd,Vu (fun e=>by have:=hI2.pos;omega),Cb,Vt (by simp;omega),Dd,Vt ⟨rfl,by omega⟩,Sj]
      .show nth (((hp2.set 0 (some (bK ((bsA m2 g.length).set (0+w.toNat) (.bool true)) 1)))++[some (bK [.int .i64 w] 1)]).set b2 none++[some (bK es3 1)]) ((hp2.set 0 (some (bK ((bsA m2 g.length).set (0+w.toNat) (.bool true)) 1)))++[some (bK [.int .i64 w] 1)]).length=_;rw[Cb,Vu (by simp),V4,Vf];rfl
      .show 1<=((hp2.set 0 (some (bK ((bsA m2 g.length).set (0+w.toNat) (.bool true)) 1)))++[some (bK [.int .i64 w] 1)]).length;rw[hln2];omega
      .show es3.drop i3=(su2++[w]).map (AV.int .i64);rw[e2,hI2.dr,VJ];rfl
      .show es3.length+cUn (B3 m2 w.toNat) 24<=24;omega
      .by_cases hjk:j=k
       .subst hjk;rw[hwk] at hw';cases hw';show B3 m2 w.toNat w.toNat=true;rw[BH,Vt rfl]
       .exact hup _ (hdone j w' (by omega) hw' ho)
      .show 2 * cUn (B3 m2 w.toNat) 24+(su2++[w]).length<_;omega
   .have hke:k=r.length:=by have:=of_decide_eq_false hge1;simp only[iN,Vy] at this;omega
    simp only[andThen,Cz,↓reduceIte];show ∃j,_;refine⟨⟨m2,es2,su2,i2,b2,hp2⟩,Ren.keys ⟨rfl,rfl,rfl,rfl,trivial⟩,⟨hI2,⟨hJ2.sound,hJ2.start,hJ2.stk,fun u hu hn _ w hw ho=>?_,hJ2.size⟩⟩,hmu⟩
    .by_cases hux:u=x.toNat
     .subst hux;rw[hrr] at hw;obtain⟨j,hj⟩:=List.getElem?_of_mem hw;have hjl:=(Vx.1 hj).1;have:=hdone j _ (by omega) hj (by simpa using ho);simpa using this
     .exact hJ2.closed u hu hn hux w hw ho
  .have h0:st=[]:=by refine List.eq_nil_of_length_eq_zero ?_;have:=of_decide_eq_false hge;simp only[iN] at this;omega
   subst h0;simp only[andThen,Cz,↓reduceIte];show T Wu 0 _ _ _;refine T.seq ?_;refine T.ops (st':=?su18) ?steps18 ?post18
   case steps18=>refine .av (.sl 0 0 (gL g).length) rfl rfl rfl (by kernel_rfl) ?_;refine .av (.sl 0 0 (gL g).length) rfl rfl rfl (by kernel_rfl) ?_;exact .nil _
   show T Wu 0 _ _ _;refine T.ret ?_;have hend:=OQ hJ;refine⟨.inr rfl,.sl 0 0 (gL g).length,⟨Tryz.f161.ntmps,[(0,.lst (bsA (mkB g s v) g.length))],[]⟩,rfl,QT (by rw[<-hend];exact hI.top) (by rw[Gy,hlg]),rfl,rfl,(nL rfl)⟩
end Go.Proofs.YthjgbnbibebigaaGreat
set_option maxHeartbeats 4000000
namespace Go.Proofs.YthjgbnbibebigaaGreat
def PR(g:List (List Int))(sh:List Bool):Option (Empty⊕Ret):=gu (VG g) <|br (iN (boL sh).length != iN (gL g).length) (some (.inr ([],iV 19))) (some (.inr ([],iV 0)))
theorem chx_ct(g:List (List Int))(sh:List Bool)(r:Ret)(h:Ac emT (PR g sh) r):CT Wu 145 ([]) ([.lst (gL g),.lst (boL sh)]) r.1 r.2:=CT.mach (fn:=Tryz.f145) (c:=zB Tryz.f145) (S:=emS) (hd:=emH) Tryz.func145 (by kernel_rfl) (nL rfl) (fun s o ho=>match s,ho with | x,_=>x.elim) (fun o ho=>Scr.ok (X:=PR g sh) ho mix (.ra s2 <|.gu fun a0=>have c0:=vld_v a0;.rv 1 [] [] [(6,hK c0 [] [])] (cE (cC (c0) s2) (ah aD)) <|.br (fun a1=>.ta [25] (bO a1)) (fun a1=>.ta [24] (bO a1))) (by kernel_rfl)) h
theorem fd_m{g:List (List Int)}{s:List Bool}{q:Int}(hg:GOk g)(hs:s.length=g.length)(hq:0<=q/\q<(g.length:Int)):CT Wu 98 [] [.lst (gL g),.lst (boL s),.int .i64 q] [] (.agg [.bool (mkB g s q.toNat 0),.bool (mkB g s q.toNat 1),.bool (mkB g s q.toNat 2),.bool (mkB g s q.toNat 3),.bool (mkB g s q.toNat 4),.bool (mkB g s q.toNat 5),.bool (mkB g s q.toNat 6),.bool (mkB g s q.toNat 7),.bool (mkB g s q.toNat 8),.bool (mkB g s q.toNat 9),.bool (mkB g s q.toNat 10),.bool (mkB g s q.toNat 11),.bool (mkB g s q.toNat 12),.bool (mkB g s q.toNat 13),.bool (mkB g s q.toNat 14),.bool (mkB g s q.toNat 15),.bool (mkB g s q.toNat 16),.bool (mkB g s q.toNat 17),.bool (mkB g s q.toNat 18),.bool (mkB g s q.toNat 19),.bool (mkB g s q.toNat 20),.bool (mkB g s q.toNat 21),.bool (mkB g s q.toNat 22),.bool (mkB g s q.toNat 23)]):=fd_c hg hs q hq
def rcL(g:List (List Int))(s:List Bool)(q:Int):List Bool:=(List.range g.length).map (mkB g s q.toNat)
theorem reach_m{g:List (List Int)}{s:List Bool}{q:Int}(hg:GOk g)(hs:s.length=g.length)(hq:0<=q/\q<(g.length:Int)):CT Wu 161 [] [.lst (gL g),.lst (boL s),.int .i64 q] [] (.lst (boL (rcL g s q))):=by obtain⟨v,rfl⟩:∃v:Nat,q=v:=⟨q.toNat,by omega⟩;have:=reach_ct hg hs (v:=v) (by omega);unfold rcL;rw[VE];exact this
theorem check4_x{g:List (List Int)}(s:List Bool)(hrw:VG g):CT Wu 145 [] [.lst (gL g),.lst (boL s)] [] (.int .i64 (CV g s)):=by
 refine chx_ct g s ([],_) (.val ?_);unfold PR CV;rw[Ab hrw,Vt (QF.2 hrw),A5,B4];by_cases h:s.length=g.length
 .rw[Ad (by rw[h];simp),Vu (by simp[h])]
 .rw[Ah (Wi.2 (by simp only[iN];omega)),Vt h]
def NJ(n:Aa)(sp:Int):Option (Empty⊕Ret):=gu (RwV n) <|br (!A9 n) (some (.inr ([],iV 20))) (br (decide (sp<0)) (some (.inr ([],iV 19))) (br (decide (iN (Wn sA n.ss).length<=sp)) (some (.inr ([],iV 19))) (some (.inr ([],iV 0)))))
theorem ckS_ct(n:Aa)(sp:Int)(r:Ret)(h:Ac emT (NJ n sp) r):CT Wu 128 ([]) ([Ai n,.int .i64 sp]) r.1 r.2:=CT.mach (fn:=Tryz.f128) (c:=zB Tryz.f128) (S:=emS) (hd:=emH) Tryz.func128 (by kernel_rfl) (nL rfl) (fun s o ho=>match s,ho with | x,_=>x.elim) (fun o ho=>Scr.ok (X:=NJ n sp) ho mix (.ra bR <|.gu fun a0=>have c0:=Gm a0;.rc [(7,hK c0 [] [])] (al (cQ t9 (c0) aw)) <|.br (fun a1=>.ta [11] (bO a1)) (fun a1=>.br (fun a2=>.ta [10,25] (az (ab a1 (bb a2 (aZ a2 (cc a2))) bn))) (fun a2=>.rb [10,24] (bX a1 (b6 a2 t3 s2)) <|.br (fun a3=>.ta [24,19] (bO a3)) (fun a3=>.ta [24,18] (bO a3))))) (by kernel_rfl)) h
def Nj(n:Aa):Option (Empty⊕Ret):=gu (RwV n) <|br (!A9 n) (some (.inr ([],AV.tup [iV 0,iV 20]))) (gu (An n) <|some (.inr ([],AV.tup [iV (iN (Am n)),iV 0])))
theorem cnt_ct(n:Aa)(r:Ret)(h:Ac emT (Nj n) r):CT Wu 96 ([]) ([Ai n]) r.1 r.2:=CT.mach (fn:=Tryz.f96) (c:=zB Tryz.f96) (S:=emS) (hd:=emH) Tryz.func96 (by kernel_rfl) (nL rfl) (fun s o ho=>match s,ho with | x,_=>x.elim) (fun o ho=>Scr.ok (X:=Nj n) ho mix (.ra (bz t3) <|.gu fun a0=>have c0:=Gm a0;.rc [(5,hK c0 [] [])] (al (cQ t9 (c0) s2)) <|.br (fun a1=>.ta [13] (aJ a1 t3 t3)) (fun a1=>.gu fun a2=>have c1:=OW a2;.tb [12] [] [(8,hK c1 [] [])] [] [] (aJ a1 (cQ t9 (c1) (u2 t2)) t3))) (by kernel_rfl)) h
def csE(n:Aa)(sp:Int):Int:=if A9 n=true then (if sp<0\/(n.ss.length:Int)<=sp then 19 else 0) else 20
theorem T7{n:Aa}(hrw:RwV n)(sp:Int):CT Wu 128 [] [Ai n,.int .i64 sp] [] (.int .i64 (csE n sp)):=by
 refine ckS_ct n sp ([],_) (.val ?_);unfold NJ csE;rw[Ab hrw];cases hv:A9 n with
 | false=>rfl
 | true=>
  rw[Ad (by rfl),Vt rfl];by_cases h0:sp<0
  .rw[Ah (AA h0),Vt (.inl h0)]
  by_cases h1:(n.ss.length:Int)<=sp
  .rw[Ad (AB h0),Ah (AA (by simpa [iN] using h1)),Vt (.inr h1)]
  .rw[Ad (AB h0),Ad (AB (by simpa [iN] using h1)),Vu (by omega)]
def Bl(n:Aa):Int:=if A9 n=true then (Am n:Int) else 0
def CC(n:Aa):Int:=if A9 n=true then 0 else 20
theorem L1{n:Aa}(hrw:RwV n):CT Wu 96 [] [Ai n] [] (.tup [.int .i64 (Bl n),.int .i64 (CC n)]):=by
 refine cnt_ct n ([],_) (.val ?_);unfold Nj Bl CC;rw[Ab hrw];cases hv:A9 n with
 | false=>rfl
 | true=>rw[Ad (by rfl),Ab (BF.1 hv)];rfl
theorem csE_zero{n:Aa}{sp:Int}(h:csE n sp=0):An n/\0<=sp/\sp<n.ss.length:=by
 unfold csE at h;split at h
 .rename_i hv;split at h
  .omega
  .exact⟨BF.1 hv,by omega,by omega⟩
 .omega
inductive E0 where | l0 (v0:Int) | l1 (v0:Int) (v1 v2 v3 v4 v5 v6 v7 v8 v9 v10 v11 v12 v13 v14 v15 v16 v17 v18 v19 v20 v21 v22 v23 v24 v25 v26 v27 v28 v29 v30 v31 v32 v33 v34 v35 v36 v37 v38 v39 v40 v41 v42 v43 v44 v45 v46 v47 v48:Bool)
def mutSt(g:List (List Int))(sh:List Bool):E0->St | .l0 v0=>St.mk 66 [(0,Wt (gL g)),(1,Wt (boL sh)),(6,Wt (gL (rvO g))),(27,Wt (boL sh)),(28,iv (iN (boL sh).length)),(29,iv v0)] [] | .l1 v0 v1 v2 v3 v4 v5 v6 v7 v8 v9 v10 v11 v12 v13 v14 v15 v16 v17 v18 v19 v20 v21 v22 v23 v24 v25 v26 v27 v28 v29 v30 v31 v32 v33 v34 v35 v36 v37 v38 v39 v40 v41 v42 v43 v44 v45 v46 v47 v48=>St.mk 66 [(10,AV.ptr 0 0 0),(11,AV.ptr 1 0 0),(43,Wt (boL sh)),(44,iv (iN (boL sh).length)),(45,iv v0)] [some (bK [AV.agg [bV v1,bV v2,bV v3,bV v4,bV v5,bV v6,bV v7,bV v8,bV v9,bV v10,bV v11,bV v12,bV v13,bV v14,bV v15,bV v16,bV v17,bV v18,bV v19,bV v20,bV v21,bV v22,bV v23,bV v24]] 24),some (bK [AV.agg [bV v25,bV v26,bV v27,bV v28,bV v29,bV v30,bV v31,bV v32,bV v33,bV v34,bV v35,bV v36,bV v37,bV v38,bV v39,bV v40,bV v41,bV v42,bV v43,bV v44,bV v45,bV v46,bV v47,bV v48]] 24)]
def Oo(g:List (List Int))(sh:List Bool):Option (E0⊕Ret):=gu (VG g) <|br (rvE g != 0) (some (.inr ([],AV.tup [bV false,iV (rvE g)]))) (br (iN (boL sh).length != iN (gL g).length) (some (.inr ([],AV.tup [bV false,iV 19]))) (some (.inl (.l0 ((0:Int))))))
def ET(g:List (List Int))(sh:List Bool)(v0:Int):Option (E0⊕Ret):=br (decide (v0<iN (boL sh).length)) (gu (0<=v0) <|el (sh) (v0.toNat) fun(x32:Bool)=>br x32 (some (.inl (.l0 (i64.wrap (v0+1))))) (gu (GOk g) <|gu (sh.length=g.length) <|gu (0<=v0/\v0<iN g.length) <|gu (GOk (rvO g)) <|gu (sh.length=(rvO g).length) <|gu (0<=v0/\v0<iN (rvO g).length) <|some (.inl (.l1 ((0:Int)) (mkB g sh v0.toNat 0) (mkB g sh v0.toNat 1) (mkB g sh v0.toNat 2) (mkB g sh v0.toNat 3) (mkB g sh v0.toNat 4) (mkB g sh v0.toNat 5) (mkB g sh v0.toNat 6) (mkB g sh v0.toNat 7) (mkB g sh v0.toNat 8) (mkB g sh v0.toNat 9) (mkB g sh v0.toNat 10) (mkB g sh v0.toNat 11) (mkB g sh v0.toNat 12) (mkB g sh v0.toNat 13) (mkB g sh v0.toNat 14) (mkB g sh v0.toNat 15) (mkB g sh v0.toNat 16) (mkB g sh v0.toNat 17) (mkB g sh v0.toNat 18) (mkB g sh v0.toNat 19) (mkB g sh v0.toNat 20) (mkB g sh v0.toNat 21) (mkB g sh v0.toNat 22) (mkB g sh v0.toNat 23) (mkB (rvO g) sh v0.toNat 0) (mkB (rvO g) sh v0.toNat 1) (mkB (rvO g) sh v0.toNat 2) (mkB (rvO g) sh v0.toNat 3) (mkB (rvO g) sh v0.toNat 4) (mkB (rvO g) sh v0.toNat 5) (mkB (rvO g) sh v0.toNat 6) (mkB (rvO g) sh v0.toNat 7) (mkB (rvO g) sh v0.toNat 8) (mkB (rvO g) sh v0.toNat 9) (mkB (rvO g) sh v0.toNat 10) (mkB (rvO g) sh v0.toNat 11) (mkB (rvO g) sh v0.toNat 12) (mkB (rvO g) sh v0.toNat 13) (mkB (rvO g) sh v0.toNat 14) (mkB (rvO g) sh v0.toNat 15) (mkB (rvO g) sh v0.toNat 16) (mkB (rvO g) sh v0.toNat 17) (mkB (rvO g) sh v0.toNat 18) (mkB (rvO g) sh v0.toNat 19) (mkB (rvO g) sh v0.toNat 20) (mkB (rvO g) sh v0.toNat 21) (mkB (rvO g) sh v0.toNat 22) (mkB (rvO g) sh v0.toNat 23))))) (some (.inr ([],AV.tup [bV false,iV 0])))
def CX(g:List (List Int))(sh:List Bool)(v0:Int)(v1 v2 v3 v4 v5 v6 v7 v8 v9 v10 v11 v12 v13 v14 v15 v16 v17 v18 v19 v20 v21 v22 v23 v24 v25 v26 v27 v28 v29 v30 v31 v32 v33 v34 v35 v36 v37 v38 v39 v40 v41 v42 v43 v44 v45 v46 v47 v48:Bool):Option (E0⊕Ret):=br (decide (v0<iN (boL sh).length)) (gu (0<=v0) <|el (sh) (v0.toNat) fun(x48:Bool)=>br (!x48) (gu (v0<24) <|el ([v1,v2,v3,v4,v5,v6,v7,v8,v9,v10,v11,v12,v13,v14,v15,v16,v17,v18,v19,v20,v21,v22,v23,v24]) (0+v0.toNat * 1) fun(x55:Bool)=>br (!x55) (some (.inr ([],AV.tup [bV false,iV 0]))) (el ([v25,v26,v27,v28,v29,v30,v31,v32,v33,v34,v35,v36,v37,v38,v39,v40,v41,v42,v43,v44,v45,v46,v47,v48]) (0+v0.toNat * 1) fun(x60:Bool)=>br (!x60) (some (.inr ([],AV.tup [bV false,iV 0]))) (some (.inl (.l1 (i64.wrap (v0+1)) v1 v2 v3 v4 v5 v6 v7 v8 v9 v10 v11 v12 v13 v14 v15 v16 v17 v18 v19 v20 v21 v22 v23 v24 v25 v26 v27 v28 v29 v30 v31 v32 v33 v34 v35 v36 v37 v38 v39 v40 v41 v42 v43 v44 v45 v46 v47 v48))))) (some (.inl (.l1 (i64.wrap (v0+1)) v1 v2 v3 v4 v5 v6 v7 v8 v9 v10 v11 v12 v13 v14 v15 v16 v17 v18 v19 v20 v21 v22 v23 v24 v25 v26 v27 v28 v29 v30 v31 v32 v33 v34 v35 v36 v37 v38 v39 v40 v41 v42 v43 v44 v45 v46 v47 v48)))) (some (.inr ([],AV.tup [bV true,iV 0])))
def ML(g:List (List Int))(sh:List Bool):E0->Option (E0⊕Ret) | .l0 v0=>ET g sh v0 | .l1 v0 v1 v2 v3 v4 v5 v6 v7 v8 v9 v10 v11 v12 v13 v14 v15 v16 v17 v18 v19 v20 v21 v22 v23 v24 v25 v26 v27 v28 v29 v30 v31 v32 v33 v34 v35 v36 v37 v38 v39 v40 v41 v42 v43 v44 v45 v46 v47 v48=>CX g sh v0 v1 v2 v3 v4 v5 v6 v7 v8 v9 v10 v11 v12 v13 v14 v15 v16 v17 v18 v19 v20 v21 v22 v23 v24 v25 v26 v27 v28 v29 v30 v31 v32 v33 v34 v35 v36 v37 v38 v39 v40 v41 v42 v43 v44 v45 v46 v47 v48
theorem mut_ct(g:List (List Int))(sh:List Bool)(r:Ret)(h:Ac (ML g sh) (Oo g sh) r):CT Wu 48 ([]) ([.lst (gL g),.lst (boL sh)]) r.1 r.2:=CT.mach (fn:=Tryz.f48) (c:=zB Tryz.f48) (S:=(mutSt g sh)) (hd:=E0.ctorIdx) Tryz.func48 (by kernel_rfl) (nL rfl) (fun s o ho=>match s,ho with | .l0 v0,ho=>Scr.ok (X:=ET g sh v0) ho mix (.ra bG <|.br (fun a0=>.gu fun a1=>.el fun x32 a2=>.rv 1 [61] [(32,bV x32)] [] (ax a0 (u2 (aB a1 (Ae (f:=bV) a2) aE)) s2) <|.br (fun a3=>.pa [69] [] [0,1,6,27,28,29] (cj a3 t7)) (fun a3=>.gu fun a4=>.gu fun a5=>.gu fun a6=>.gu fun a7=>.gu fun a8=>.gu fun a9=>have c0:=fd_m a4 a5 a6;have c1:=fd_m a7 a8 a9;.pb [68] [] [(38,hK c0 [] []),(42,hK c1 [] [])] [] [0,1] [10,11,43,44,45] (bm a3 (bb (bL (al (c0))) (bb (bL (al (c1))) (k2 (af au au)))) bY t8))) (fun a0=>.ta [60] (aJ a0 t3 t3))) (by kernel_rfl) | .l1 v0 v1 v2 v3 v4 v5 v6 v7 v8 v9 v10 v11 v12 v13 v14 v15 v16 v17 v18 v19 v20 v21 v22 v23 v24 v25 v26 v27 v28 v29 v30 v31 v32 v33 v34 v35 v36 v37 v38 v39 v40 v41 v42 v43 v44 v45 v46 v47 v48,ho=>Scr.ok (X:=CX g sh v0 v1 v2 v3 v4 v5 v6 v7 v8 v9 v10 v11 v12 v13 v14 v15 v16 v17 v18 v19 v20 v21 v22 v23 v24 v25 v26 v27 v28 v29 v30 v31 v32 v33 v34 v35 v36 v37 v38 v39 v40 v41 v42 v43 v44 v45 v46 v47 v48) ho mix (.ra bG <|.br (fun a0=>.gu fun a1=>.el fun x48 a2=>.rd [93] [(48,bV x48)] [] (af a0 (u2 (aB a1 (Ae (f:=bV) a2) aE))) <|.br (fun a3=>.gu fun a4=>.el fun x55 a5=>.br (fun a6=>.tb [105,115] [(55,AV.tup [bV x55])] [] [] [] (cw (cE (am (ag a3 (bv a3 (an a1 a4) (aj a3 (ak (Ae (f:=bV) a5))) (ai a3 (aj a6 (aC a6 (aV a6 (bq a3 a6) a3))))))) t3))) (fun a6=>.el fun x60 a7=>.rd [105,114] [(55,AV.tup [bV x55]),(60,AV.tup [bV x60])] [] (aL (ag a3 (bv a3 (an a1 a4) (aj a3 (ak (Ae (f:=bV) a5))) (ag a3 (ae a3 a6 (bv a6 (an a1 a4) (aj a6 (ak (Ae (f:=bV) a7))) (ag a6 (be (bq a3 a6) a3)))))))) <|.br (fun a8=>.ta [105,114,127] (aJ a8 t3 t3)) (fun a8=>.pa [105,114,126] [0,1] [10,11,43,44,45] (cj a8 t8)))) (fun a3=>.pa [104] [0,1] [10,11,43,44,45] (bI (bb a3 (aZ a3 (aN (be a3 a3)))) aw t8))) (fun a0=>.ta [92] (aJ a0 t3 t3))) (by kernel_rfl)) (fun o ho=>Scr.ok (X:=Oo g sh) ho mix (.ra aD <|.gu fun a0=>have c0:=rev_c a0;.rv 1 [] [] [(16,hK c0 [] [])] (bx (cC (c0) ba)) <|.br (fun a1=>.ta [41] (aJ a1 (u2 bn) t3)) (fun a1=>.rb [40] (af a1 (ah aD)) <|.br (fun a2=>.ta [53] (aJ a2 t3 t3)) (fun a2=>.pa [52] [] [0,1,6,27,28,29] (aF a2 bY t7)))) (by kernel_rfl)) h
inductive FU where | l0 (v0 v1:Int) | l1 (v0 v1:Int) (v2:List Bool) (v3:Int)
def rmuSt(g:List (List Int))(sh:List Bool):FU->St | .l0 v0 v1=>St.mk 53 [(0,Wt (gL g)),(1,Wt (boL sh)),(7,iv v0),(8,iv v1)] [] | .l1 v0 v1 v2 v3=>St.mk 53 [(0,Wt (gL g)),(1,Wt (boL sh)),(7,iv v0),(8,iv v1),(9,Wt (Wn bV v2)),(10,iv v3)] []
def OK(g:List (List Int))(sh:List Bool):Option (FU⊕Ret):=gu (VG g) <|br (CV g sh != 0) (some (.inr ([],AV.tup [bV false,iV (CV g sh)]))) (some (.inl (.l0 ((0:Int)) ((0:Int)))))
def E7(g:List (List Int))(sh:List Bool)(v0 v1:Int):Option (FU⊕Ret):=br (decide (v1<iN (gL g).length)) (gu (0<=v1) <|el (sh) (v1.toNat) fun(x25:Bool)=>br x25 (some (.inl (.l0 v0 (i64.wrap (v1+1))))) (gu (GOk g) <|gu (sh.length=g.length) <|gu (0<=v1/\v1<iN g.length) <|some (.inl (.l1 (i64.wrap (v0+1)) v1 (rcL g sh v1) ((0:Int)))))) (some (.inr ([],AV.tup [bV (decide (0<v0)),iV 0])))
def Dx(g:List (List Int))(sh:List Bool)(v0 v1:Int)(v2:List Bool)(v3:Int):Option (FU⊕Ret):=br (decide (v3<iN (gL g).length)) (gu (0<=v3) <|el (sh) (v3.toNat) fun(x41:Bool)=>br (!x41) (el v2 (v3.toNat) fun(x47:Bool)=>br (!x47) (some (.inr ([],AV.tup [bV false,iV 0]))) (some (.inl (.l1 v0 v1 v2 (i64.wrap (v3+1)))))) (some (.inl (.l1 v0 v1 v2 (i64.wrap (v3+1)))))) (some (.inl (.l0 v0 (i64.wrap (v1+1)))))
def Nz(g:List (List Int))(sh:List Bool):FU->Option (FU⊕Ret) | .l0 v0 v1=>E7 g sh v0 v1 | .l1 v0 v1 v2 v3=>Dx g sh v0 v1 v2 v3
theorem rmu_ct(g:List (List Int))(sh:List Bool)(r:Ret)(h:Ac (Nz g sh) (OK g sh) r):CT Wu 148 ([]) ([.lst (gL g),.lst (boL sh)]) r.1 r.2:=CT.mach (fn:=Tryz.f148) (c:=zB Tryz.f148) (S:=(rmuSt g sh)) (hd:=FU.ctorIdx) Tryz.func148 (by kernel_rfl) (nL rfl) (fun s o ho=>match s,ho with | .l0 v0 v1,ho=>Scr.ok (X:=E7 g sh v0 v1) ho mix (.ra cF <|.br (fun a0=>.gu fun a1=>.el fun x25 a2=>.rd [41] [(25,bV x25)] [] (af a0 (bN a1 (Ae (f:=bV) a2) s2)) <|.br (fun a3=>.pa [53] [] [0,1,7,8] (b4 a3 t5)) (fun a3=>.rb [52] (af a3 aE) <|.gu fun a4=>.gu fun a5=>.gu fun a6=>have c0:=reach_m a4 a5 a6;.pb [] [] [(32,hK c0 [] [])] [] [] [0,1,7,8,9,10] (cO (bb (bL (al (c0))) s2) t7))) (fun a0=>.ta [40] (aJ a0 (am t2) t3))) (by kernel_rfl) | .l1 v0 v1 v2 v3,ho=>Scr.ok (X:=Dx g sh v0 v1 v2 v3) ho mix (.ra cF <|.br (fun a0=>.gu fun a1=>.el fun x41 a2=>.br (fun a3=>.el fun x47 a4=>.rd [73,89] [(41,bV x41),(47,bV x47)] [] (af a0 (bN a1 (Ae (f:=bV) a2) (am (ai a3 (cJ a3 (an a1 (Ae (f:=bV) a4)) (bE a3)))))) <|.br (fun a5=>.ta [89,101] (aJ a5 t3 t3)) (fun a5=>.pa [89,100] [] [0,1,7,8,9,10] (b4 a5 t7))) (fun a3=>.pb [73,88] [(41,bV x41)] [] [] [] [0,1,7,8,9,10] (aj (cf a0 (bN a1 (Ae (f:=bV) a2) (bb a3 (aC a3 (bW a3)))) aE) t7))) (fun a0=>.pa [72] [] [0,1,7,8] (b4 a0 t5))) (by kernel_rfl)) (fun o ho=>Scr.ok (X:=OK g sh) ho mix (.ra aD <|.gu fun a0=>have c0:=check4_x (sh) a0;.rv 1 [] [] [(13,hK c0 [] [])] (bx (bg (bu (c0)) s2)) <|.br (fun a1=>.ta [31] (aJ a1 (u2 bn) t3)) (fun a1=>.pa [30] [] [0,1,7,8] (ar a1 aw t5))) (by kernel_rfl)) h
theorem Rcv.open1{g:List (List Int)}{s:List Bool}{v k:Nat}(h:Rcv g s v k):s.getD v true=false:=by
 induction h with
 | refl h=>exact h
 | step _ _ _ ih=>exact ih
theorem Rcv.trans{g:List (List Int)}{s:List Bool}{a b c:Nat}(h:Rcv g s a b)(k:Rcv g s b c):Rcv g s a c:=by
 induction k with
 | refl _=>exact h
 | step _ hw ho ih=>exact .step ih hw ho
theorem Ua(v:Nat):∀(l:List Int) (R:List (List Int)) (w:Nat) (y:Int),(∀z∈l,0<=z/\z<(R.length:Int))->(y∈(l.foldl (B8 v) R).getD w []↔y∈R.getD w []\/(y=(v:Int)/\(w:Int)∈l)):=by
 intro l;induction l with
 | nil=>intro R w y _;simp
 | cons x l ih=>
  intro R w y hl;rw[List.foldl_cons,ih _ _ _ (fun z hz=>by rw[QY];exact hl z (VN _ hz))];obtain⟨x0,x1⟩:=hl x (List.mem_cons_self ..);have e:(B8 v R x).getD w []=if x.toNat=w then R.getD w []++[(v:Int)] else R.getD w []:=by
   unfold B8;rw[Vw,Wk];by_cases hx:x.toNat=w
   .subst hx;rw[Vt rfl,Vt (by omega),Vt rfl];rfl
   .rw[Vu hx,Vu hx,<-Vw]
  rw[e,VY];by_cases hx:x.toNat=w
  .have hwx:(w:Int)=x:=by omega
   rw[Vt hx,VZ,Vn];constructor
   .rintro((h | h) | ⟨h1,h2⟩)
    .exact .inl h
    .exact .inr ⟨h,.inl hwx⟩
    .exact .inr ⟨h1,.inr h2⟩
   .rintro(h | ⟨h1,h2⟩)
    .exact .inl (.inl h)
    .exact .inl (.inr h1)
  .have hwx:(w:Int)≠x:=by omega
   rw[Vu hx];constructor
   .rintro(h | ⟨h1,h2⟩)
    .exact .inl h
    .exact .inr ⟨h1,.inr h2⟩
   .rintro(h | ⟨h1,h2⟩)
    .exact .inl h
    .rcases h2 with h2 | h2
     .exact absurd h2 hwx
     .exact .inr ⟨h1,h2⟩
theorem revI_mem{g:List (List Int)}(hr:∀v,v<g.length->∀w∈g.getD v [],0<=w/\w<(g.length:Int))(w:Nat)(y:Int):∀i,i<=g.length->(y∈(BV g i).getD w []↔∃x:Nat,x<i/\y=(x:Int)/\(w:Int)∈g.getD x []):=by
 intro i;induction i with
 | zero=>
  intro _;have:(BV g 0).getD w []=[]:=by unfold BV;rw[List.range_zero,List.foldl_nil,Vw,VV];split<;>rfl
  rw[this];constructor
  .intro h;cases h
  .rintro⟨x,h,_⟩;exact absurd h (Wl _)
 | succ i ih=>
  intro hi;rw[Qu,Ua i _ _ _ _ (fun z hz=>by rw[J1];exact hr i (by omega) z hz),ih (by omega)];constructor
  .rintro(⟨x,h1,h2⟩ | ⟨h1,h2⟩)
   .exact⟨x,by omega,h2⟩
   .exact⟨i,by omega,h1,h2⟩
  .rintro⟨x,h1,h2,h3⟩
   by_cases hx:x=i
   .subst hx;exact .inr ⟨h2,h3⟩
   .exact .inl ⟨x,by omega,h2,h3⟩
theorem Ol{g:List (List Int)}(hg:GOk g)(w:Nat)(y:Int):y∈(Ao g).getD w []↔∃x:Nat,x<g.length/\y=(x:Int)/\(w:Int)∈g.getD x []:=revI_mem (fun v hv=>(hg.row v hv).2) w y g.length (VH _)
theorem Qt{g:List (List Int)}(hrw:VG g)(h:Cn g=true):GOk g:=by obtain⟨h1,h2⟩:=Nq hrw h;exact⟨h1,fun v hv=>⟨by have:=(h2 v hv).1;omega,(h2 v hv).2⟩⟩
theorem revG_gok{g:List (List Int)}(hrw:VG g)(h:Cn g=true):GOk (Ao g):=by
 obtain⟨h1,h2⟩:=Nq hrw h;have hl:(Ao g).length=g.length:=J1 g _;refine⟨by omega,fun v hv=>⟨?_,fun w hw=>?_⟩⟩
 .have:=Sr (fun v hv=>(h2 v hv).1) v g.length (VH _);unfold Ao;omega
 .obtain⟨x,hx,rfl,_⟩:=(Ol (Qt hrw h) v w).1 hw;omega
theorem rcv_rev{g:List (List Int)}(hg:GOk g){s:List Bool}{v u:Nat}(h:Rcv (Ao g) s v u):Rcv g s u v:=by
 induction h with
 | refl h=>exact .refl h
 | @step u w _ hw ho ih=>
  obtain⟨x,hx,e,h2⟩:=(Ol hg u _).1 hw;have:x=w:=by omega
  subst this;exact(Rcv.step (.refl ho) h2 ih.open1).trans ih
theorem mem_lt{g:List (List Int)}{x:Nat}{y:Int}(h:y∈g.getD x []):x<g.length:=by
 rcases Wm x g.length with h1 | h1
 .exact h1
 .rw[Vw,VT h1] at h;cases h
theorem rcv_vre{g:List (List Int)}(hg:GOk g){s:List Bool}{u v:Nat}(h:Rcv g s u v):Rcv (Ao g) s v u:=by
 induction h with
 | refl h=>exact .refl h
 | @step a w h1 hw ho ih=>exact(Rcv.step (.refl ho) ((Ol hg w _).2 ⟨a,mem_lt hw,rfl,hw⟩) ih.open1).trans ih
def Mut2(g:List (List Int))(s:List Bool):Prop:=CV g s=0/\(∃v,s.getD v true=false)/\∀v w,s.getD v true=false->s.getD w true=false->Rcv g s v w
open Classical in
def muB(g:List (List Int))(s:List Bool):Bool:=decide (Mut2 g s)
theorem muB_t{g:List (List Int)}{s:List Bool}(h:Mut2 g s):muB g s=true:=by unfold muB;exact @VB _ (Classical.propDecidable _) h
theorem EM{g:List (List Int)}{s:List Bool}(h:¬Mut2 g s):muB g s=false:=by unfold muB;exact @VA _ (Classical.propDecidable _) h
theorem KB{g:List (List Int)}{s:List Bool}:CV g s=if Cn g=true then (if s.length≠g.length then 19 else 0) else 20:=rfl
theorem Hb{s:List Bool}{v:Nat}(h:s.getD v true=false):v<s.length:=by
 rcases Wm v s.length with h1 | h1
 .exact h1
 .rw[Vw,VT h1] at h;cases h
theorem rmu_c{g:List (List Int)}{s:List Bool}(hrw:VG g):CT Wu 148 [] [.lst (gL g),.lst (boL s)] [] (.tup [.bool (muB g s),.int .i64 (CV g s)]):=by
 refine rmu_ct g s ([],_) ?_;unfold OK;rw[Ab hrw];have hlg:=B4 g;by_cases hc:CV g s=0
 case neg=>rw[Ah (Wi.2 hc),EM (fun h=>hc h.1)];exact .ret _
 rw[Ad (by rw[hc];rfl),hc];have hc':=hc;rw[KB] at hc';have hv:Cn g=true:=by cases h:Cn g with | true=>rfl | false=>rw[h] at hc';cases hc'
 rw[Vt hv] at hc';have hl:s.length=g.length:=by
  by_cases h:s.length≠g.length
  .rw[Vt h] at hc';cases hc'
  .omega
 have hg:=Qt hrw hv;have h24:=hg.len
 have key:∀(j k:Nat) (c:Int),k+j=g.length->0<=c/\c<=k->(0<c↔∃v,v<k/\s.getD v true=false)->(∀v w,v<k->s.getD v true=false->s.getD w true=false->Rcv g s v w)->
   Ac (Nz g s) (some (.inl (.l0 c (k:Int)))) (([],.tup [.bool (muB g s),.int .i64 0]):Ret):=by
  intro j;induction j with
  | zero=>
   intro k c hk hcb hco hall;have hkg:k=g.length:=by omega
   refine .to (show E7 g s c k=some (.inr ([],.tup [.bool (decide (0<c)),.int .i64 0])) from ?_) ?_
   .unfold E7;rw[Ad (AB (by rw[hlg];simp only[iN];omega))]
   .have:muB g s=decide (0<c):=by
     by_cases h:0<c
     .rw[AA h];obtain⟨v,_,hv⟩:=hco.1 h;exact muB_t ⟨hc,⟨v,hv⟩,fun a b ha hb=>hall a b (by have:=Hb ha;omega) ha hb⟩
     .rw[AB h];refine EM fun⟨_,⟨v,hv⟩,_⟩=>h (hco.2 ⟨v,by have:=Hb hv;omega,hv⟩)
    rw[this];exact .ret _
  | succ j ih=>
   intro k c hk hcb hco hall;have hkl:k<s.length:=by omega
   have hsk:=Ay true hkl;have wk:=zW k (by omega);cases hso:s.getD k true with
   | true=>
    refine .to (show E7 g s c k=some (.inl (.l0 c ((k+1:Nat):Int))) from ?_) (ih (k+1) c (by omega) ⟨hcb.1,by omega⟩ (hco.trans ⟨fun⟨v,h1,h2⟩=>⟨v,by omega,h2⟩,fun⟨v,h1,h2⟩=>⟨v,?_,h2⟩⟩) fun v w h1 h2 h3=>hall v w ?_ h2 h3)
    .unfold E7;rw[Ah (AA (by rw[hlg];simp only[iN];omega)),Ab (by omega),VE,Al hsk,hso,Ah rfl,wk]
    .rcases Wm v k with h | h
     .exact h
     .have:v=k:=by omega
      subst this;rw[hso] at h2;cases h2
    .rcases Wm v k with h | h
     .exact h
     .have:v=k:=by omega
      subst this;rw[hso] at h2;cases h2
   | false=>
    have wc:i64.wrap (c+1)=c+1:=Dt (by omega) (by omega);have hrl:(rcL g s k).length=g.length:=by unfold rcL;simp
    refine .to (show E7 g s c k=some (.inl (.l1 (c+1) (k:Int) (rcL g s k) 0)) from ?_) ?_
    .unfold E7;rw[Ah (AA (by rw[hlg];simp only[iN];omega)),Ab (by omega),VE,Al hsk,hso,Ad rfl,Ab hg,Ab hl,Ab ⟨by omega,by simp only[iN];omega⟩,wc]
    have inner:∀(i q:Nat),q+i=g.length->(∀w,w<q->s.getD w true=false->Rcv g s k w)->Ac (Nz g s) (some (.inl (.l1 (c+1) (k:Int) (rcL g s k) (q:Int)))) (([],.tup [.bool (muB g s),.int .i64 0]):Ret):=by
     intro i;induction i with
     | zero=>
      intro q hq hok;refine .to (show Dx g s (c+1) k (rcL g s k) q=some (.inl (.l0 (c+1) ((k+1:Nat):Int))) from ?_) (ih (k+1) (c+1) (by omega) ⟨by omega,by omega⟩ ⟨fun _=>⟨k,by omega,hso⟩,fun _=>by omega⟩ fun v w h1 h2 h3=>?_)
      .unfold Dx;rw[Ad (AB (by rw[hlg];simp only[iN];omega)),wk]
      .rcases Wm v k with h | h
       .exact hall v w h h2 h3
       .have:v=k:=by omega
        subst this;exact hok w (by have:=Hb h3;omega) h3
     | succ i ihi=>
      intro q hq hok;have hql:q<s.length:=by omega
      have hsq:=Ay true hql;have wq:=zW q (by omega);have hrq:(rcL g s k)[q]?=some (mkB g s k q):=by unfold rcL;rw[VF,VS (by omega),VE];rfl
      cases hsqo:s.getD q true with
      | true=>
       refine .to (show Dx g s (c+1) k (rcL g s k) q=some (.inl (.l1 (c+1) (k:Int) (rcL g s k) ((q+1:Nat):Int))) from ?_) (ihi (q+1) (by omega) fun w hw ho=>hok w ?_ ho)
       .unfold Dx;rw[Ah (AA (by rw[hlg];simp only[iN];omega)),Ab (by omega),VE,Al hsq,hsqo,Ad (by rfl),wq]
       .rcases Wm w q with h | h
        .exact h
        .have:w=q:=by omega
         subst this;rw[hsqo] at ho;cases ho
      | false=>
       cases hm:mkB g s k q with
       | true=>
        refine .to (show Dx g s (c+1) k (rcL g s k) q=some (.inl (.l1 (c+1) (k:Int) (rcL g s k) ((q+1:Nat):Int))) from ?_) (ihi (q+1) (by omega) fun w hw ho=>?_)
        .unfold Dx;rw[Ah (AA (by rw[hlg];simp only[iN];omega)),Ab (by omega),VE,Al hsq,hsqo,Ah (by rfl),Al hrq,hm,Ad (by rfl),wq]
        .rcases Wm w q with h | h
         .exact hok w h ho
         .have:w=q:=by omega
          subst this;exact ES.1 hm
       | false=>
        refine .to (show Dx g s (c+1) k (rcL g s k) q=some (.inr ([],.tup [.bool false,.int .i64 0])) from ?_) ?_
        .unfold Dx;rw[Ah (AA (by rw[hlg];simp only[iN];omega)),Ab (by omega),VE,Al hsq,hsqo,Ah (by rfl),Al hrq,hm,Ah (by rfl)]
        .rw[EM fun h=>by
          have:=ES.2 (h.2.2 k q hso hsqo);rw[hm] at this;cases this]
         exact .ret _
    exact inner g.length 0 (by omega) fun w hw=>absurd hw (Wl _)
 exact key g.length 0 0 (by omega) ⟨by omega,by omega⟩ ⟨fun h=>absurd h (by omega),fun⟨v,h,_⟩=>absurd h (Wl _)⟩ fun v w h=>absurd h (Wl _)
section
variable {n:Nat} {ok:Nat->Bool} {L:Nat->Nat->Bool}
structure Hi(n:Nat)(ok:Nat->Bool)(L:Nat->Nat->Bool)(mk mk':List Bool):Prop where
 len:mk'.length=mk.length
 mono:∀x,mk.getD x false=true->mk'.getD x false=true
 sound:∀P:Nat->Prop,(∀b c,b<n->c<n->P c->ok b=true->L b c=true->P b)->(∀x,mk.getD x false=true->P x)->∀x,mk'.getD x false=true->P x
theorem Hi.refl(mk:List Bool):Hi n ok L mk mk:=⟨rfl,fun _ h=>h,fun _ _ h=>h⟩
theorem Hi.trans{a b c:List Bool}(h:Hi n ok L a b)(k:Hi n ok L b c):Hi n ok L a c:=⟨k.len.trans h.len,fun x hx=>k.mono x (h.mono x hx),fun P hP ha=>k.sound P hP (h.sound P hP ha)⟩
end
structure Aj where
 cl:List Bool
 bw:List Int
 pe:List Int
def sgA(s:Aj):AV:=.agg [.lst (boL s.cl),lI s.bw,lI s.pe]
inductive F1 where | l0 (v0:Int)
def idxSt(l:List Int)(q:Int):F1->St | .l0 v0=>St.mk 19 [(0,Wt (Wn iv l)),(1,iv q),(7,iv (iN (Wn iv l).length)),(8,iv v0)] []
def idxEn(l:List Int)(q:Int):Option (F1⊕Ret):=some (.inl (.l0 ((0:Int))))
def EQ(l:List Int)(q v0:Int):Option (F1⊕Ret):=br (decide (v0<iN (Wn iV l).length)) (gu (0<=v0) <|el l (v0.toNat) fun(x14:Int)=>br (q==x14) (some (.inr ([],iV v0))) (some (.inl (.l0 (i64.wrap (v0+1)))))) (some (.inr ([],iV (-1))))
def idxStep(l:List Int)(q:Int):F1->Option (F1⊕Ret) | .l0 v0=>EQ l q v0
theorem idx_ct(l:List Int)(q:Int)(r:Ret)(h:Ac (idxStep l q) (idxEn l q) r):CT Wu 138 ([]) ([lI l,.int .i64 q]) r.1 r.2:=CT.mach (fn:=Tryz.f138) (c:=zB Tryz.f138) (S:=(idxSt l q)) (hd:=F1.ctorIdx) Tryz.func138 (by kernel_rfl) (nL rfl) (fun s o ho=>match s,ho with | .l0 v0,ho=>Scr.ok (X:=EQ l q v0) ho mix (.ra bG <|.br (fun a0=>.rb [19] (bx a0) <|.gu fun a1=>.el fun x14 a2=>.rd [] [(14,iv x14)] [] (aL (bH a1 (Ae (f:=iv) a2) aD)) <|.br (fun a3=>.ta [33] (az (bx a3))) (fun a3=>.pa [32] [] [0,1,7,8] (cj a3 t5))) (fun a0=>.ta [18] (bO a0))) (by kernel_rfl)) (fun o ho=>Scr.ok (X:=idxEn l q) ho mix (.pa [] [] [0,1,7,8] (aj (u2 cI) t5)) (by kernel_rfl)) h
inductive FT where | l0 (v0:Int)
def s19St(l w:List Int):FT->St | .l0 v0=>St.mk 26 [(0,Wt (Wn iv l)),(1,Wt (Wn iv w)),(5,iv v0)] []
def PE(l w:List Int):Option (FT⊕Ret):=br (iN (Wn iV l).length != iN (Wn iV w).length) (some (.inr ([],bV false))) (some (.inl (.l0 ((0:Int)))))
def IV(l w:List Int)(v0:Int):Option (FT⊕Ret):=br (decide (v0<iN (Wn iV l).length)) (gu (0<=v0) <|el l (v0.toNat) fun(x19:Int)=>el w (v0.toNat) fun(x23:Int)=>br (x19 != x23) (some (.inr ([],bV false))) (some (.inl (.l0 (i64.wrap (v0+1)))))) (some (.inr ([],bV true)))
def s19Step(l w:List Int):FT->Option (FT⊕Ret) | .l0 v0=>IV l w v0
theorem s19_ct(l w:List Int)(r:Ret)(h:Ac (s19Step l w) (PE l w) r):CT Wu 95 ([]) ([lI l,lI w]) r.1 r.2:=CT.mach (fn:=Tryz.f95) (c:=zB Tryz.f95) (S:=(s19St l w)) (hd:=FT.ctorIdx) Tryz.func95 (by kernel_rfl) (nL rfl) (fun s o ho=>match s,ho with | .l0 v0,ho=>Scr.ok (X:=IV l w v0) ho mix (.ra cF <|.br (fun a0=>.gu fun a1=>.el fun x19 a2=>.el fun x23 a3=>.rd [29] [(19,iv x19),(23,iv x23)] [] (af a0 (bN a1 (Ae (f:=iv) a2) (am (bH a1 (Ae (f:=iv) a3) aD)))) <|.br (fun a4=>.ta [51] (bO a4)) (fun a4=>.pa [50] [] [0,1,5] (b4 a4 t4))) (fun a0=>.ta [28] (bO a0))) (by kernel_rfl)) (fun o ho=>Scr.ok (X:=PE l w) ho mix (.rv 1 [] [] [] (bo (ah aD)) <|.br (fun a0=>.ta [21] (bO a0)) (fun a0=>.pa [20] [] [0,1,5] (cO a0 t4))) (by kernel_rfl)) h
inductive Gn where | l0 (v0:Int) (v1:List Bool)
def PH(q:Aj):Gn->St | .l0 v0 v1=>St.mk 23 [(1,AV.ptr 0 0 0),(3,AV.sl 1 0 (boL q.cl).length),(4,iv v0)] [some (bK [AV.agg [Wt (boL q.cl),Wt (Wn iv q.bw),Wt (Wn iv q.pe)]] 3),some (bK (Wn bV v1) 1)]
def PI(q:Aj):Option (Gn⊕Ret):=gu (∀(e:AV),e∈boL q.cl->e.cells.length=1) <|gu ((boL q.cl).length<=9223372036854775807) <|gu ((boL q.cl).length * 1<=140737488355328) <|some (.inl (.l0 ((0:Int)) (q.cl)))
def HC(q:Aj)(v0:Int)(v1:List Bool):Option (Gn⊕Ret):=br (decide (v0<iN (Wn iV q.pe).length)) (gu (0<=v0) <|el (q.pe) (v0.toNat) fun(x19:Int)=>gu (0<=x19) <|gu (x19<iN (boL q.cl).length) <|gu ((0+x19.toNat).succ.le (Wn bV v1).length) <|some (.inl (.l0 (i64.wrap (v0+1)) (v1.set (0+x19.toNat) true)))) (gu ((boL q.cl).length=(Wn bV v1).length) <|some (.inr ([],Wt (Wn bV v1))))
def celStep(q:Aj):Gn->Option (Gn⊕Ret) | .l0 v0 v1=>HC q v0 v1
theorem cel_ct(q:Aj)(r:Ret)(h:Ac (celStep q) (PI q) r):CT Wu 108 ([]) ([sgA q]) r.1 r.2:=CT.mach (fn:=Tryz.f108) (c:=zB Tryz.f108) (S:=(PH q)) (hd:=Gn.ctorIdx) Tryz.func108 (by kernel_rfl) (nL rfl) (fun s o ho=>match s,ho with | .l0 v0 v1,ho=>Scr.ok (X:=HC q v0 v1) ho mix (.ra cR <|.br (fun a0=>.gu fun a1=>.el fun x19 a2=>.gu fun a3=>.gu fun a4=>.gu fun a5=>.lq [25] [(19,iv x19)] [] [] [] [0,1] [1,3,4] (up [] [(1,(Wn bV v1).set (0+x19.toNat) (bV true))] (PH q (.l0 (i64.wrap (v0+1)) (v1.set (0+x19.toNat) true)))) (bm a0 (ah (bH a1 (Ae (f:=iv) a2) (af (an a3 a4) (ak a5)))) aE t6) (by simp[up,upF,upV,upH,upB,PH,gL,boL,lI])) (fun a0=>.rb [24] (bx a0) <|.gu fun a1=>.tc [] [] [1] (ay a1))) (by kernel_rfl)) (fun o ho=>Scr.ok (X:=PI q) ho mix (.ra bR <|.gu fun a0=>.gu fun a1=>.gu fun a2=>.pa [] [0,1] [1,3,4] (cO (bg (cL a0 a1 a2) s2) t6)) (by kernel_rfl)) h
def wh1En(l w:Int):Option (Empty⊕Ret):=some (.inr ([some (bK [.int .i64 w] 1)],bV (l==w)))
theorem wh1_ct(l w:Int)(r:Ret)(h:Ac emT (wh1En l w) r):CT Wu 152 ([some (bK [.int .i64 w] 1)]) ([.int .i64 l,.ptr 0 0 0]) r.1 r.2:=CT.mach (fn:=Tryz.f152) (c:=zB Tryz.f152) (S:=emS) (hd:=emH) Tryz.func152 (by kernel_rfl) (nL rfl) (fun s o ho=>match s,ho with | x,_=>x.elim) (fun o ho=>Scr.ok (X:=wh1En l w) ho mix (.tc [] [0] [] (aj (u2 (aR (aj t3 s2))) t3)) (by kernel_rfl)) h
def wkA:AV->AV | .agg cs=>.agg (cs.map wk1) | a=>wk1 a
def wk2:AV->AV | .agg cs=>.agg (cs.map wk1) | .tup cs=>.tup (cs.map wkA) | a=>wk1 a
theorem VR.wkA{φ:Phi}{A:Nat->Prop}{w:World}{a:AV}{v:Value}(h:VR φ A w a v):VR φ A w (wkA a) v:=by
 unfold Proofs.YthjgbnbibebigaaGreat.wkA;split
 .cases h with
  | imm _ _ h=>
   cases h with
   | agg _ vs hl h=>
    refine .agg _ vs (by simpa using hl) fun i c v hc hv=>?_
    rw[VF] at hc;obtain⟨c',hc',rfl⟩:=Option.map_eq_some_iff.1 hc;exact(VR.imm _ _ (h i c' v hc' hv)).wk1
  | agg _ vs hl h=>
   refine .agg _ vs (by simpa using hl) fun i c v hc hv=>?_
   rw[VF] at hc;obtain⟨c',hc',rfl⟩:=Option.map_eq_some_iff.1 hc;exact(h i c' v hc' hv).wk1
 .exact h.wk1
theorem VR.wk2{φ:Phi}{A:Nat->Prop}{w:World}{a:AV}{v:Value}(h:VR φ A w a v):VR φ A w (wk2 a) v:=by
 unfold Proofs.YthjgbnbibebigaaGreat.wk2;split
 .exact VR.wkA h
 .cases h with
  | imm _ _ h=>cases h
  | tup _ vs hl h=>
   refine .tup _ vs (by simpa using hl) fun i c v hc hv=>?_
   rw[VF] at hc;obtain⟨c',hc',rfl⟩:=Option.map_eq_some_iff.1 hc;exact VR.wkA (h i c' v hc' hv)
 .exact h.wk1
theorem CT.w2{f:FuncId}{hin hout:List (Option Blk)}{args:List AV}{res:AV}(h:CT Wu f hin args hout res):CT Wu f hin args hout (wk2 res):=h.less fun _ _ _ _ h=>VR.wk2 h
def CF(l:List Int)(x:Int):Int:=match fnd (fun i=>l.getD i 0==x) 0 l.length with | some i=>(i:Int) | none=> -1
theorem idxZ_has(l:List Int)(x:Int):decide (0<=CF l x)=AS l x:=by
 unfold CF AS;cases fnd (fun i=>l.getD i 0==x) 0 l.length with
 | none=>rfl
 | some i=>simp
theorem idx_c(l:List Int)(x:Int)(hl:l.length<=9223372036854775807):CT Wu 138 [] [lI l,.int .i64 x] [] (.int .i64 (CF l x)):=by
 refine idx_ct l x ([],_) ?_;refine(Sq (fun i=>F1.l0 (i:Int)) l.length (fun i=>l.getD i 0==x) (rF:=fun i=>([],.int .i64 (i:Int))) (r:=([],.int .i64 (-1))) (fun i hi hp=>?_) (fun i r hi hp hr=>?_) (fun _=>?_)).res (by unfold CF;split<;>simp_all)
 .refine .to (show EQ l x i=_ from ?_) (.ret _);unfold EQ;rw[CU 0 hi,Ah (by rw[<-hp];exact BEq.comm)]
 .refine .to (show EQ l x i=_ from ?_) hr;unfold EQ;rw[CU 0 hi,Ad (by rw[<-hp];exact BEq.comm),zW i (by omega)]
 .refine .to (show EQ l x l.length=_ from ?_) (.ret _);unfold EQ;rw[AN]
theorem s19_c(l:List Int)(hl:l.length<=9223372036854775807):CT Wu 95 [] [lI l,lI l] [] (.bool true):=by
 refine s19_ct l l ([],_) ?_;unfold PE;rw[Ad (by simp)];refine Bb (fun i=>FT.l0 (i:Int)) l.length (fun i hi h=>?_) ?_
 .refine .to (show IV l l i=_ from ?_) h;unfold IV;rw[CU 0 hi,elG 0 hi,Ad (by simp),zW i (by omega)]
 .refine .to (show IV l l l.length=_ from ?_) (.ret _);unfold IV;rw[AN]
def AC(s:Aj):List Bool:=s.pe.foldl (fun c b=>c.set b.toNat true) s.cl
theorem Le:∀(l:List Int) (c:List Bool),(l.foldl (fun c b=>c.set b.toNat true) c).length=c.length:=by
 intro l;induction l with
 | nil=>intro c;rfl
 | cons x l ih=>intro c;rw[List.foldl_cons,ih,V4]
theorem D9(s:Aj):(AC s).length=s.cl.length:=Le _ _
theorem La(l:List Bool):∀(e:AV),e∈boL l->e.cells.length=1:=fun e he=>by unfold boL at he;obtain⟨b,_,rfl⟩:=V0.1 he;rfl
theorem GP(l:List Int):∀(e:AV),e∈Wn (AV.int .i64) l->e.cells.length=1:=fun e he=>by obtain⟨b,_,rfl⟩:=V0.1 he;rfl
theorem PB(s:Aj)(hl:s.cl.length<=1000000)(hp:s.pe.length<=1000000)(hb:∀b∈s.pe,0<=b/\b<(s.cl.length:Int)):CT Wu 108 [] [sgA s] [] (.lst (boL (AC s))):=by
 refine cel_ct s ([],_) ?_;have hL:=A5 s.cl;unfold PI;rw[Ab (La _),Ab (by omega),Ab (by omega)];refine Pm (L:=fun i b=>Gn.l0 (i:Int) b) (f:=fun c b=>c.set b.toNat true) (l:=s.pe) s.cl (fun i x hx h=>?_) ?_
 .have hlen:=Le (s.pe.take i) s.cl;have h2:=hb x (Vz hx);have hi:=(Vx.1 hx).1;generalize (s.pe.take i).foldl (fun c b=>c.set b.toNat true) s.cl=c at *;refine .to (show HC s i c=_ from ?_) h;unfold HC;rw[AR hx,Ab h2.1,Ab (by simp only[iN];omega),Ab (show Nat.le _ _ from(by simp only[Vy];show 0+x.toNat+1<=_;omega)),zW i (by omega),VL]
 .refine .to (show HC s s.pe.length (AC s)=_ from ?_) (.ret _);unfold HC;rw[AN,Ab (by rw[hL,Vy,D9])];rfl
theorem wh1_c(x y:Int):CT Wu 152 [some (Blk.mk [.int .i64 y] 1 true true none)] [.int .i64 x,.ptr 0 0 0] [some (Blk.mk [.int .i64 y] 1 true true none)] (.bool (x==y)):=wh1_ct x y ([_],_) (.ret _)
def bdW(s:Aj)(i:Nat):Bool:=decide (s.bw.getD i 0 < -1)||(decide (8<=s.bw.getD i 0)||(decide (0<=s.bw.getD i 0)&&!(s.cl.getD i true)))
def bdP(nb:Nat)(s:Aj)(i:Nat):Bool:=decide (s.pe.getD i 0<0)||(decide ((nb:Int)<=s.pe.getD i 0)||(s.cl.getD (s.pe.getD i 0).toNat true||AS (s.pe.take i) (s.pe.getD i 0)))
def Gl(n:Aa)(s:Aj):Bool:=decide (s.cl.length=Am n)&&(decide (s.bw.length=Am n)&&((fnd (bdW s) 0 s.bw.length).isNone&&(fnd (bdP n.bs.length s) 0 s.pe.length).isNone))
def BD(n:Aa)(s:Aj):Bool:=A9 n&&Gl n s
structure Ba(n:Aa)(s:Aj):Prop where
 lc:s.cl.length=Am n
 lb:s.bw.length=Am n
 bw:∀i,i<s.bw.length->-1<=s.bw.getD i 0/\s.bw.getD i 0<8/\(0<=s.bw.getD i 0->s.cl.getD i true=true)
 pb:∀b∈s.pe,0<=b/\b<(n.bs.length:Int)/\s.cl.getD b.toNat true=false
 nd:s.pe.Nodup
theorem UQ{l:List Int}{i j:Nat}(h:j<i)(hj:j<l.length):l.getD j 0∈l.take i:=by
 have hl:j<(l.take i).length:=by rw[VX];omega
 have:(l.take i)[j]=l.getD j 0:=by rw[List.getElem_take,Vw,Vv hj];rfl
 rw[<-this];exact V2 _
theorem nd_of{l:List Int}(h:∀i,i<l.length->AS (l.take i) (l.getD i 0)=false):l.Nodup:=by
 refine List.pairwise_iff_getElem.2 fun i j hi hj hij e=>?_
 refine L2 (h j hj) ?_;have h2:l.getD j 0=l.getD i 0:=by rw[Vw,Vv hj,Vw,Vv hi];exact e.symm
 rw[h2];exact UQ hij hi
theorem nd_has{l:List Int}(hn:l.Nodup){i:Nat}(hi:i<l.length):AS (l.take i) (l.getD i 0)=false:=by
 cases h:AS (l.take i) (l.getD i 0) with
 | false=>rfl
 | true=>obtain⟨j,hj,e⟩:=V7.1 (FD.1 h);rw[VX] at hj;rw[List.getElem_take] at e;have:=nd_inj hn (i:=j) (j:=i) (by omega) hi (by rw[Vw,Vv (show j<l.length by omega)];exact e);omega
theorem getD_mem{l:List Int}{i:Nat}(h:i<l.length):l.getD i 0∈l:=by rw[Vw,Vv h];exact V2 _
theorem sigF_iff{n:Aa}{s:Aj}:Gl n s=true↔Ba n s:=by
 unfold Gl;simp only[VD,decide_eq_true_eq,Option.isNone_iff_eq_none];constructor
 .rintro⟨h1,h2,h3,h4⟩
  have hp:∀i,i<s.pe.length->bdP n.bs.length s i=false:=fun i hi=>HQ h4 i (VI _) (by omega)
  unfold bdP at hp;simp only[Bool.or_eq_false_iff,decide_eq_false_iff_not] at hp;refine⟨h1,h2,fun i hi=>?_,fun b hb=>?_,nd_of fun i hi=>(hp i hi).2.2.2⟩
  .have:=HQ h3 i (VI _) (by omega);unfold bdW at this;simp only[Bool.or_eq_false_iff,decide_eq_false_iff_not,Bool.and_eq_false_iff] at this;refine⟨by omega,by omega,fun h0=>?_⟩;rcases this.2.2 with h | h
   .omega
   .simpa using h
  .obtain⟨i,hi,rfl⟩:=V7.1 hb;have:=hp i hi;rw[Vw,Vv hi] at this;simp only[Option.getD_some] at this;exact⟨by omega,by omega,this.2.2.1⟩
 .intro h;refine⟨h.lc,h.lb,Mp fun i _ hi=>?_,Mp fun i _ hi=>?_⟩
  .obtain⟨h1,h2,h3⟩:=h.bw i (by omega);unfold bdW;rw[AB (show ¬s.bw.getD i 0 < -1 by omega),AB (show ¬8<=s.bw.getD i 0 by omega)];by_cases h0:0<=s.bw.getD i 0
   .rw[h3 h0];simp
   .rw[AB h0];rfl
  .obtain⟨h1,h2,h3⟩:=h.pb _ (getD_mem (show i<s.pe.length by omega));unfold bdP;rw[AB (show ¬s.pe.getD i 0<0 by omega),AB (show ¬(n.bs.length:Int)<=s.pe.getD i 0 by omega),h3,nd_has h.nd (by omega)];rfl
theorem Rx{n:Aa}{s:Aj}:BD n s=true↔An n/\Ba n s:=by unfold BD;rw[VD,BF,sigF_iff]
theorem Sl{n:Nat}{x:Int}(h0:0<=x)(h1:x<(n:Int)):x∈(List.range n).map (fun i:Nat=>(i:Int)):=V0.2 ⟨x.toNat,List.mem_range.2 (by omega),by omega⟩
theorem Ba.pl{n:Aa}{s:Aj}(h:Ba n s):s.pe.length<=n.bs.length:=by
 have:=S4 h.nd (d:=(List.range n.bs.length).map fun i:Nat=>(i:Int)) fun x hx=>Sl (h.pb x hx).1 (h.pb x hx).2.1
 rwa [Vy,We] at this
theorem Rl:∀{l:List Int} {c:List Bool},(∀b∈l,0<=b/\b<(c.length:Int))->∀(x:Nat),(l.foldl (fun c b=>c.set b.toNat true) c).getD x true=(c.getD x true||AS l (x:Int)):=by
 intro l;induction l with
 | nil=>intro c _ x;simp[AS,fnd]
 | cons y l ih=>
  intro c h x;have hy:=h y (by simp);rw[List.foldl_cons,ih (fun b hb=>by rw[V4];exact h b (VN _ hb)) x];have e:(c.set y.toNat true).getD x true=(c.getD x true||decide (y=(x:Int))):=by
   rw[Vw,Wk,Vw];by_cases hx:y=(x:Int)
   .rw[Vt (by omega),Vt (by omega),AA hx];simp
   .rw[Vu (by omega),AB hx,Bool.or_false]
  have e2:AS (y::l) (x:Int)=(decide (y=(x:Int))||AS l (x:Int)):=by rw[Bool.eq_iff_iff,Bool.or_eq_true,FD,FD,VY,decide_eq_true_eq];exact or_congr eq_comm Iff.rfl
  rw[e,e2,Bool.or_assoc]
theorem Rb{n:Aa}{s:Aj}(hv:An n)(h:Ba n s)(x:Nat):(AC s).getD x true=(s.cl.getD x true||AS s.pe (x:Int)):=Rl (fun b hb=>by have:=h.pb b hb;have:=h.lc;have:=hv.cel;omega) x
def Qd(l:List Int)(q:Int):Option (Empty⊕Ret):=gu (l.length<=9223372036854775807) <|some (.inr ([],bV (decide (0<=CF l q))))
theorem con_ct(l:List Int)(q:Int)(r:Ret)(h:Ac emT (Qd l q) r):CT Wu 92 ([]) ([lI l,.int .i64 q]) r.1 r.2:=CT.mach (fn:=Tryz.f92) (c:=zB Tryz.f92) (S:=emS) (hd:=emH) Tryz.func92 (by kernel_rfl) (nL rfl) (fun s o ho=>match s,ho with | x,_=>x.elim) (fun o ho=>Scr.ok (X:=Qd l q) ho mix (.ra s2 <|.gu fun a0=>have c0:=idx_c l q a0;.tb [] [] [(7,hK c0 [] [])] [] [] (az (aR (aj (bu (c0)) aw)))) (by kernel_rfl)) h
inductive F4 where | l0 (v0:Int)
def ixwSt(l:List Int)(w:Int):F4->St | .l0 v0=>St.mk 19 [(0,AV.sl 0 0 l.length),(1,AV.fn 152 [AV.ptr 1 0 0]),(7,iv (iN l.length)),(8,iv v0)] [some (bK (Wn iv l) 1),some (bK [iv w] 1)]
def ixwEn(l:List Int)(w:Int):Option (F4⊕Ret):=some (.inl (.l0 ((0:Int))))
def EN(l:List Int)(w v0:Int):Option (F4⊕Ret):=br (decide (v0<iN l.length)) (gu (0<=v0) <|gu (v0<iN l.length) <|el l (0+v0.toNat) fun(x15:Int)=>br (x15==w) (some (.inr ([some (bK (l.map (AV.int .i64)) 1),some (bK [.int .i64 w] 1)],iV v0))) (some (.inl (.l0 (i64.wrap (v0+1)))))) (some (.inr ([some (bK (l.map (AV.int .i64)) 1),some (bK [.int .i64 w] 1)],iV (-1))))
def ixwStep(l:List Int)(w:Int):F4->Option (F4⊕Ret) | .l0 v0=>EN l w v0
theorem ixw_ct(l:List Int)(w:Int)(r:Ret)(h:Ac (ixwStep l w) (ixwEn l w) r):CT Wu 162 ([some (bK (l.map (AV.int .i64)) 1),some (bK [.int .i64 w] 1)]) ([.sl 0 0 l.length,.fn 152 [.ptr 1 0 0]]) r.1 r.2:=CT.mach (fn:=Tryz.f162) (c:=zB Tryz.f162) (S:=(ixwSt l w)) (hd:=F4.ctorIdx) Tryz.func162 (by kernel_rfl) (nL rfl) (fun s o ho=>match s,ho with | .l0 v0,ho=>Scr.ok (X:=EN l w v0) ho mix (.ra bG <|.br (fun a0=>.rb [19] (bx a0) <|.gu fun a1=>.gu fun a2=>.el fun x15 a3=>have c0:=wh1_c x15 (w);.rd [] [(15,iv x15)] [(16,hK c0 [1] [])] (aL (ax (an a1 a2) (ak (Ae (f:=iv) a3)) (cm (c0)))) <|.br (fun a4=>.tc [33] [0,1] [] (cj a4 t4)) (fun a4=>.pa [32] [0,1] [0,1,7,8] (cj a4 (ak (u2 t5))))) (fun a0=>.tc [18] [0,1] [] (cO a0 t4))) (by kernel_rfl)) (fun o ho=>Scr.ok (X:=ixwEn l w) ho mix (.pa [] [0,1] [0,1,7,8] (aj (u2 cI) (ak (u2 t5)))) (by kernel_rfl)) h
inductive Eo where | l0 (v0:Int) | l1 (v0:Int)
def foSt(n:Aa)(q:Aj):Eo->St | .l0 v0=>St.mk 96 [(2,AV.ptr 0 0 0),(3,AV.ptr 1 0 0),(5,iv v0)] [some (bK [Ai n] 8),some (bK [AV.agg [Wt (boL q.cl),Wt (Wn iv q.bw),Wt (Wn iv q.pe)]] 3)] | .l1 v0=>St.mk 96 [(2,AV.ptr 0 0 0),(3,AV.ptr 1 0 0),(6,iv v0)] [some (bK [Ai n] 8),some (bK [AV.agg [Wt (boL q.cl),Wt (Wn iv q.bw),Wt (Wn iv q.pe)]] 3)]
def foEn(n:Aa)(q:Aj):Option (Eo⊕Ret):=gu (An n) <|br (iN (boL q.cl).length != iN (Am n)) (some (.inr ([],bV false))) (br (iN (Wn iV q.bw).length != iN (boL q.cl).length) (some (.inr ([],bV false))) (some (.inl (.l0 ((0:Int))))))
def EI(n:Aa)(q:Aj)(v0:Int):Option (Eo⊕Ret):=br (decide (v0<iN (Wn iV q.bw).length)) (gu (0<=v0) <|el (q.bw) (v0.toNat) fun(x33:Int)=>br (decide (x33 < -1)) (some (.inr ([],bV false))) (el (q.bw) (v0.toNat) fun(x40:Int)=>br (decide (8<=x40)) (some (.inr ([],bV false))) (el (q.bw) (v0.toNat) fun(x48:Int)=>br (x48 != -1) (el (q.cl) (v0.toNat) fun(x55:Bool)=>br (!x55) (some (.inr ([],bV false))) (some (.inl (.l0 (i64.wrap (v0+1)))))) (some (.inl (.l0 (i64.wrap (v0+1)))))))) (some (.inl (.l1 ((0:Int)))))
def E4(n:Aa)(q:Aj)(v0:Int):Option (Eo⊕Ret):=br (decide (v0<iN (Wn iV q.pe).length)) (gu (0<=v0) <|el (q.pe) (v0.toNat) fun(x70:Int)=>br (decide (x70<0)) (some (.inr ([],bV false))) (br (decide (iN (Wn bA n.bs).length<=x70)) (some (.inr ([],bV false))) (gu (0<=x70) <|el (q.cl) (x70.toNat) fun(x85:Bool)=>br x85 (some (.inr ([],bV false))) (gu (∀(e:AV),e∈Wn iV q.pe->e.cells.length=1) <|gu (v0<=iN (Wn iV q.pe).length) <|gu ((Wq (v0.toNat-Ws 0) (Wp (Ws 0) q.pe)).length<=9223372036854775807) <|br (AS (Wq (v0.toNat-Ws 0) (Wp (Ws 0) q.pe)) x70) (some (.inr ([],bV false))) (some (.inl (.l1 (i64.wrap (v0+1))))))))) (some (.inr ([],bV true)))
def foStep(n:Aa)(q:Aj):Eo->Option (Eo⊕Ret) | .l0 v0=>EI n q v0 | .l1 v0=>E4 n q v0
theorem fo_ct(n:Aa)(q:Aj)(r:Ret)(h:Ac (foStep n q) (foEn n q) r):CT Wu 149 ([]) ([Ai n,sgA q]) r.1 r.2:=CT.mach (fn:=Tryz.f149) (c:=zB Tryz.f149) (S:=(foSt n q)) (hd:=Eo.ctorIdx) Tryz.func149 (by kernel_rfl) (nL rfl) (fun s o ho=>match s,ho with | .l0 v0,ho=>Scr.ok (X:=EI n q v0) ho mix (.ra cR <|.br (fun a0=>.gu fun a1=>.el fun x33 a2=>.br (fun a3=>.tb [55,73] [(33,iv x33)] [] [] [] (az (ab a0 (cH a1 (Ae (f:=iv) a2) (am (cA a3 (bj a3 (aN (k5 cq)))))) bn))) (fun a3=>.el fun x40 a4=>.br (fun a5=>.tb [55,72,89] [(33,iv x33),(40,iv x40)] [] [] [] (az (ab a0 (cH a1 (Ae (f:=iv) a2) (am (bt a3 (cn a3 a1 (Ae (f:=iv) a4) (ai a3 (aG a5 (cA a5 (bL (be a5 a5))))))))) bn))) (fun a5=>.el fun x48 a6=>.br (fun a7=>.el fun x55 a8=>.rd [55,72,88,103] [(33,iv x33),(40,iv x40),(48,iv x48),(55,bV x55)] [] (bX a0 (aB a1 (Ae (f:=iv) a2) (am (bt a3 (cn a3 a1 (Ae (f:=iv) a4) (ai a3 (u2 (bt a5 (cJ a5 (an a1 (Ae (f:=iv) a6)) (ae a5 a7 (ai a7 (cJ a7 (an a1 (Ae (f:=bV) a8)) (be (bq a5 a7) a5))))))))))))) <|.br (fun a9=>.ta [72,88,103,119] (bO a9)) (fun a9=>.pa [72,88,103,118] [0,1] [2,3,5] (b4 a9 t6))) (fun a7=>.pb [55,72,88,102] [(33,iv x33),(40,iv x40),(48,iv x48)] [] [] [0,1] [2,3,5] (aj (cf a0 (cH a1 (Ae (f:=iv) a2) (am (bt a3 (cn a3 a1 (Ae (f:=iv) a4) (ai a3 (u2 (bt a5 (cn a5 a1 (Ae (f:=iv) a6) (ai a5 (aj a7 (aZ a7 (aV a7 (bq a5 a7) a5)))))))))))) aE) t6))))) (fun a0=>.pa [54] [0,1] [2,3,6] (cO a0 t6))) (by kernel_rfl) | .l1 v0,ho=>Scr.ok (X:=E4 n q v0) ho mix (.ra cR <|.br (fun a0=>.gu fun a1=>.el fun x70 a2=>.rd [129] [(70,iv x70)] [] (bX a0 (aB a1 (Ae (f:=iv) a2) aw)) <|.br (fun a3=>.ta [149] (cB (bb a3 (aZ a3 (bj a3 (k5 (bD (bL aD)))))))) (fun a3=>.br (fun a4=>.ta [148,163] (cB (am (b6 a3 t3 (aG a4 (aZ a4 (bj a4 (bL aD)))))))) (fun a4=>.gu fun a5=>.el fun x85 a6=>.br (fun a7=>.tb [148,162,177] [(85,bV x85)] [] [] [] (cB (am (b6 a3 t3 (u2 (bt a4 (cJ a4 (an a5 (Ae (f:=bV) a6)) (u2 (aZ a7 (bW a7)))))))))) (fun a7=>.gu fun a8=>.gu fun a9=>.gu fun a10=>have c0:=EP (Wq (v0.toNat-Ws 0) (Wp (Ws 0) q.pe)) x70 a10;.rd [148,162,176] [(85,bV x85)] [(94,hK c0 [] [])] (aL (b6 a3 t3 (u2 (bt a4 (cJ a4 (an a5 (Ae (f:=bV) a6)) (u2 (bt a7 (aW a7 (k2 (ab a8 (Int.le_refl 0) (ab a1 a9 (show iN (Wn iv q.pe).length<=iN (Wn iv q.pe).length by omega)))) (bT a7 (bu (show CT Wu 16 [] [Wt (Wq (v0.toNat-Ws 0) (Wp (Ws 0) (Wn iv q.pe))),iv x70] [] (bV (AS (Wq (v0.toNat-Ws 0) (Wp (Ws 0) q.pe)) x70)) from CT.eqs (c0) (by first | (simp only[boL,VJ,Wj,List.map_take,List.map_drop,List.map_replicate,List.nil_append]<;>rfl) | (simp[gL,boL,lI,sA,bA]<;>rfl)) (by first | (simp only[boL,VJ,Wj,List.map_take,List.map_drop,List.map_replicate,List.nil_append]<;>rfl) | (simp[gL,boL,lI,sA,bA]<;>rfl)))) a7))))))))) <|.br (fun a11=>.ta [148,162,176,191] (bO a11)) (fun a11=>.pa [148,162,176,190] [0,1] [2,3,6] (b4 a11 t6)))))) (fun a0=>.ta [128] (bO a0))) (by kernel_rfl)) (fun o ho=>Scr.ok (X:=foEn n q) ho mix (.ra cI <|.gu fun a0=>.br (fun a1=>have c0:=Gb a0;.tb [29] [] [(12,hK c0 [] [])] [] [] (cB (ah (ab (bc t9 (c0)) t3 (aG a1 (aZ a1 (bW a1))))))) (fun a1=>have c0:=Gb a0;.rd [28] [] [(12,hK c0 [] [])] (bC (ab (bc t9 (c0)) t3 (cP a1 (aI a1 (bT a1 t3 a1))))) <|.br (fun a2=>.ta [28,45] (bO a2)) (fun a2=>.pa [28,44] [0,1] [2,3,5] (cO a2 t6)))) (by kernel_rfl)) h
inductive F7 where | l0 (v0:Int) (v1:List Int)
def JZ(n:Aa):F7->St | .l0 v0 v1=>St.mk 29 [(2,AV.ptr 0 0 0),(4,AV.ptr 1 0 0),(5,iv v0)] [some (bK [AV.agg [AV.nils,AV.nils,AV.nils]] 3),some (Blk.mk [AV.agg [AV.sl 2 0 (Wo (iN (Am n)).toNat false).length,AV.sl 3 0 v1.length,AV.nils]] 3 false true none),some (bK (Wo (iN (Am n)).toNat (bV false)) 1),some (bK (Wn iv v1) 1)]
def Ny(n:Aa):Option (F7⊕Ret):=gu (RwV n) <|br (!A9 n) (some (.inr ([],AV.tup [AV.agg [AV.nils,AV.nils,AV.nils],iV 20]))) (gu (An n) <|gu (1 * iN (Am n)<=281474976710656) <|gu (iN (Am n)<=9223372036854775807) <|gu (8 * iN (Am n)<=281474976710656) <|some (.inl (.l0 ((0:Int)) (Wo (iN (Am n)).toNat 0))))
def Ie(n:Aa)(v0:Int)(v1:List Int):Option (F7⊕Ret):=br (decide (v0<iN v1.length)) (gu (0<=v0) <|gu (v0<iN v1.length) <|gu ((0+v0.toNat).succ.le (Wn iV v1).length) <|some (.inl (.l0 (i64.wrap (v0+1)) (v1.set (0+v0.toNat) (-1))))) (some (.inr ([],AV.tup [AV.agg [Wt (Wo (iN (Am n)).toNat (bV false)),Wt (Wn iV v1),AV.nils],iV 0])))
def r20nStep(n:Aa):F7->Option (F7⊕Ret) | .l0 v0 v1=>Ie n v0 v1
theorem r20n_ct(n:Aa)(r:Ret)(h:Ac (r20nStep n) (Ny n) r):CT Wu 53 ([]) ([Ai n]) r.1 r.2:=CT.mach (fn:=Tryz.f53) (c:=zB Tryz.f53) (S:=(JZ n)) (hd:=F7.ctorIdx) Tryz.func53 (by kernel_rfl) (nL rfl) (fun s o ho=>match s,ho with | .l0 v0 v1,ho=>Scr.ok (X:=Ie n v0 v1) ho mix (.ra cR <|.br (fun a0=>.gu fun a1=>.gu fun a2=>.gu fun a3=>.lq [43] [] [] [] [] [0,1,2,3] [2,4,5] (up [] [(1,[AV.agg [AV.sl 2 0 (Wo (iN (Am n)).toNat false).length,AV.sl 3 0 v1.length,AV.nils]]),(3,(Wn iv v1).set (0+v0.toNat) (iv (-1)))] (JZ n (.l0 (i64.wrap (v0+1)) (v1.set (0+v0.toNat) (-1))))) (bm a0 (am (af (an a1 a2) (ak a3))) aE (aN (aj (al t4) t3))) (by simp[up,upF,upV,upH,upB,JZ,gL,boL,lI,sA,bA])) (fun a0=>.tc [42] [] [2,3] (bF a0 ca (bq (show(Wo (iN (Am n)).toNat false).length=(Wo (iN (Am n)).toNat (bV false)).length by simp) (show v1.length=(Wn iv v1).length by simp))))) (by kernel_rfl)) (fun o ho=>Scr.ok (X:=Ny n) ho mix (.ra (bz t3) <|.gu fun a0=>have c0:=O6 a0;.rc [(7,hK c0 [] [])] (al (cQ t9 (c0) s2)) <|.br (fun a1=>.ta [17] (bF a1 bM t4)) (fun a1=>.gu fun a2=>.gu fun a3=>.gu fun a4=>.gu fun a5=>have c1:=Gb a2;have c2:=Gb a2;.lq [16] [] [(11,hK c1 [] []),(14,hK c2 [] [])] [] [] [1,4,2,3] [2,4,5] (up [] [(1,[AV.agg [AV.sl 2 0 (iN (Am n)).toNat,AV.sl 3 0 (iN (Am n)).toNat,AV.nils]]),(3,Wo (iN (Am n)).toNat (iv 0))] (JZ n (.l0 ((0:Int)) (Wo (iN (Am n)).toNat 0)))) (aj (ab a1 (u2 (ab (bc t9 (c1)) (an (show 0<=iN (Am n) by simp) (ab (show iN (Am n)<=iN (Am n) by omega) a3 a4)) (cQ t9 (c2) (ab (an (show 0<=iN (Am n) by simp) (ab (show iN (Am n)<=iN (Am n) by omega) a5 a4)) t3 aS)))) s2) (aN (aj (al t4) t3))) (by simp[up,upF,upV,upH,upB,JZ,gL,boL,lI,sA,bA]))) (by kernel_rfl)) h
theorem LI{σ ρ:Type}{step:σ->Option (σ⊕ρ)}(L:Nat->σ)(N:Nat)(p:Nat->Bool){rF:Nat->ρ}{r:ρ}
  (hb:∀i,i<N->(∀j,j<i->p j=false)->p i=true->Ac step (some (.inl (L i))) (rF i))
  (hg:∀i x,i<N->(∀j,j<i->p j=false)->p i=false->Ac step (some (.inl (L (i+1)))) x->Ac step (some (.inl (L i))) x)
  (he:fnd p 0 N=none->Ac step (some (.inl (L N))) r):Ac step (some (.inl (L 0))) (match fnd p 0 N with | some i=>rF i | none=>r):=by
 have key:∀k i,i+k=N->(∀j,j<i->p j=false)->fnd p 0 N=fnd p i (N-i)->Ac step (some (.inl (L i))) (match fnd p i (N-i) with | some i=>rF i | none=>r):=by
  intro k;induction k with
  | zero=>intro i hi _ h0
          have e:i=N:=by omega
          subst e;rw[Q8 (by omega)] at h0 ⊢
          exact he h0
  | succ k ih=>
   intro i hi hj h0;have hlt:i<N:=by omega
   rw[R4 hlt] at h0 ⊢
   cases hp:p i with
   | true=>exact hb i hlt hj hp
   | false=>
    rw[hp] at h0;refine hg i _ hlt hj hp (ih (i+1) (by omega) (fun j h=>?_) h0);rcases Wm j i with h1 | h1
    .exact hj j h1
    .have:j=i:=by omega
     subst this;exact hp
 exact key N 0 (by omega) (fun j h=>absurd h (Wl _)) rfl
theorem Oc(l:List Int)(x:Int)(hl:l.length<=9223372036854775807):CT Wu 92 [] [lI l,.int .i64 x] [] (.bool (AS l x)):=by refine con_ct l x ([],_) ?_;unfold Qd;rw[Ab hl,idxZ_has];exact .ret _
theorem ixw_c(l:List Int)(w:Int)(hl:l.length<=1000000):CT Wu 162 [some (Blk.mk (l.map (AV.int .i64)) 1 true true none),some (Blk.mk [.int .i64 w] 1 true true none)] [.sl 0 0 l.length,.fn 152 [.ptr 1 0 0]] [some (Blk.mk (l.map (AV.int .i64)) 1 true true none),some (Blk.mk [.int .i64 w] 1 true true none)] (.int .i64 (CF l w)):=by
 refine ixw_ct l w ([_,_],_) ?_;refine(Sq (fun i=>F4.l0 (i:Int)) l.length (fun i=>l.getD i 0==w) (rF:=fun i=>([some (Blk.mk (l.map (AV.int .i64)) 1 true true none),some (Blk.mk [.int .i64 w] 1 true true none)],.int .i64 (i:Int))) (r:=([some (Blk.mk (l.map (AV.int .i64)) 1 true true none),some (Blk.mk [.int .i64 w] 1 true true none)],.int .i64 (-1))) (fun i hi hp=>?_) (fun i r hi hp hr=>?_) (fun _=>?_)).res (by unfold CF;split<;>simp_all)
 .refine .to (show EN l w i=_ from ?_) (.ret _);unfold EN;rw[Ah (AA (by simp only[iN];omega)),Ab (by omega),Ab (by simp only[iN];omega),VL,elG 0 hi,Ah hp]
 .refine .to (show EN l w i=_ from ?_) hr;unfold EN;rw[Ah (AA (by simp only[iN];omega)),Ab (by omega),Ab (by simp only[iN];omega),VL,elG 0 hi,Ad hp,zW i (by omega)]
 .refine .to (show EN l w l.length=_ from ?_) (.ret _);unfold EN;rw[Ad (AB (by simp only[iN];omega))]
theorem GI{n:Aa}(hv:An n):Am n<=48/\n.bs.length<=Am n:=⟨hv.cel.2.2,hv.cel.2.1⟩
theorem LA{α:Type}(l:List α)(i:Nat):Wq ((i:Int).toNat-Ws 0) (Wp (Ws 0) l)=l.take i:=by rw[VE];simp
theorem N2{nb:Nat}{s:Aj}{i:Nat}(hi:i<=s.pe.length)(hbd:∀j,j<i->bdP nb s j=false):i<=nb:=by
 unfold bdP at hbd;simp only[Bool.or_eq_false_iff,decide_eq_false_iff_not] at hbd;have hn:(s.pe.take i).Nodup:=nd_of fun j h=>by
  rw[VX] at h;have e:(s.pe.take i).getD j 0=s.pe.getD j 0:=by rw[Vw,VO,Vt (by omega),<-Vw]
  rw[e,List.take_take,Nat.min_eq_left (by omega)];exact(hbd j (by omega)).2.2.2
 have:=S4 hn (d:=(List.range nb).map fun i:Nat=>(i:Int)) fun x hx=>by obtain⟨j,hj,rfl⟩:=V7.1 hx;rw[VX] at hj;have:=hbd j (by omega);rw[Vw,Vv (show j<s.pe.length by omega)] at this;simp only[Option.getD_some] at this;rw[List.getElem_take];exact Sl (by omega) (by omega)
 rw[Vy,We,VX] at this;omega
theorem fo_c{n:Aa}(s:Aj)(hv:An n):CT Wu 149 [] [Ai n,sgA s] [] (.bool (Gl n s)):=by
 refine fo_ct n s ([],_) ?_;obtain⟨h48,hnb⟩:=GI hv;unfold foEn Gl;rw[Ab hv,A5,Vy];by_cases h1:s.cl.length=Am n
 case neg=>rw[Ah (Wi.2 (by simp only[iN];omega)),AB h1];exact .ret _
 rw[Ad (by rw[h1];simp),AA h1,Bool.true_and];by_cases h2:s.bw.length=Am n
 case neg=>rw[Ah (Wi.2 (by simp only[iN];omega)),AB h2];exact .ret _
 rw[Ad (by rw[h1,h2];simp),AA h2,Bool.true_and];refine(LI (fun i=>Eo.l0 (i:Int)) s.bw.length (bdW s) (rF:=fun _=>([],.bool false)) (r:=([],.bool (fnd (bdP n.bs.length s) 0 s.pe.length).isNone)) (fun i hi _ hp=>?_) (fun i x hi _ hp hx=>?_) (fun _=>?_)).res (by cases fnd (bdW s) 0 s.bw.length<;>rfl)
 .refine .to (show EI n s i=_ from ?_) (.ret _);unfold EI;unfold bdW at hp;rw[CU 0 hi];cases hd1:decide (s.bw.getD i 0 < -1) with
  | true=>rw[Ah rfl]
  | false=>
   rw[hd1,Vq] at hp;rw[Ad rfl,elG 0 hi];cases hd2:decide (8<=s.bw.getD i 0) with
   | true=>rw[Ah rfl]
   | false=>rw[hd2,Vq,VD] at hp;rw[Ad rfl,elG 0 hi,Ah (by have:=of_decide_eq_true hp.1;exact Wi.2 (by omega)),elG true (show i<s.cl.length by omega),Ah hp.2]
 .refine .to (show EI n s i=_ from ?_) hx;unfold EI;unfold bdW at hp;simp only[Bool.or_eq_false_iff] at hp;rw[CU 0 hi,Ad hp.1,elG 0 hi,Ad hp.2.1,elG 0 hi,zW i (by omega)];have h3:=of_decide_eq_false hp.1;by_cases hm:s.bw.getD i 0 = -1
  .rw[Ad (by rw[hm];rfl)]
  .rw[Ah (Wi.2 hm),elG true (show i<s.cl.length by omega)];have hq:=hp.2.2;rw[AA (show 0<=s.bw.getD i 0 by omega),Bool.true_and] at hq;rw[Ad hq]
 .refine .to (show EI n s s.bw.length=_ from ?_) ?_ (y:=some (.inl (.l1 ((0:Nat):Int))))
  .unfold EI;rw[AN];rfl
  refine(LI (fun i=>Eo.l1 (i:Int)) s.pe.length (bdP n.bs.length s) (rF:=fun _=>([],.bool false)) (r:=([],.bool true)) (fun i hi hj hp=>?_) (fun i x hi hj hp hx=>?_) (fun _=>?_)).res (by cases fnd (bdP n.bs.length s) 0 s.pe.length<;>rfl)
  .have hi24:=N2 (Nat.le_of_lt hi) hj;refine .to (show E4 n s i=_ from ?_) (.ret _);unfold E4;unfold bdP at hp;rw[CU 0 hi];by_cases hd1:s.pe.getD i 0<0
   .rw[Ah (AA hd1)]
   rw[AB hd1,Vq] at hp;rw[Ad (AB hd1)];by_cases hd2:(n.bs.length:Int)<=s.pe.getD i 0
   .rw[Ah (AA (by rw[Vy];exact hd2))]
   rw[AB hd2,Vq] at hp;rw[Ad (AB (by rw[Vy];exact hd2)),Ab (by omega),Al (Ay true (show(s.pe.getD i 0).toNat<s.cl.length by omega))];cases hd3:s.cl.getD (s.pe.getD i 0).toNat true with
   | true=>rw[Ah rfl]
   | false=>rw[hd3,Vq] at hp;rw[Ad rfl,Ab (GP _),Ab (by simp only[iN,Vy];omega),LA,Ab (by rw[VX];omega),Ah hp]
  .have hi24:=N2 (Nat.le_of_lt hi) hj;refine .to (show E4 n s i=_ from ?_) hx;unfold E4;unfold bdP at hp;simp only[Bool.or_eq_false_iff,decide_eq_false_iff_not] at hp;rw[CU 0 hi,Ad (AB hp.1),Ad (AB (by rw[Vy];exact hp.2.1)),Ab (by omega),Al (Ay true (show(s.pe.getD i 0).toNat<s.cl.length by omega)),Ad hp.2.2.1,Ab (GP _),Ab (by simp only[iN,Vy];omega),LA,Ab (by rw[VX];omega),Ad hp.2.2.2,zW i (by omega)]
  .refine .to (show E4 n s s.pe.length=_ from ?_) (.ret _);unfold E4;rw[AN]
theorem NN{P:Program}{o:Oper}{ev:Operand->AV}{h:Hp}{nb:Nat}{t t' e:TypeId}{x y:Operand}(ho:o.op = .binOp .eql t x y t')(hu:P.underlying t=some (.slice e))(hx:ev x = .lst [])(hy:ev y = .nils):
  J9 P o ev h nb (fun R=>∃b,R={v:=.bool b}):=by
 intro φ A w a K Q hA hv hh hn k;have h1:=hv x;rw[hx] at h1;have h2:=hv y;rw[hy] at h2;have h2:=h2.nils_inv;have hs:∃ad c,a.eval x = .slice ad 0 c:=by
  rcases h1.lst_inv with ⟨_,ad,he⟩ | ⟨r,o',cap,z,g,he,_⟩
  .exact⟨ad,0,he⟩
  .exact⟨_,cap,he⟩
 obtain⟨ad,c,he⟩:=hs;have key:∃b,(execOp a.eval o).run P w = .ok (.value (.bool b)) w:=by
  have hg:(eqGuard .eql t x y (.slice ad 0 c) (.slice none 0 0)).run P w = .ok () w:=by unfold eqGuard;split<;>simp_all
  have hr:∃b,(Op.equal t (.slice ad 0 c) (.slice none 0 0)).run P w = .ok b w:=by
   have key:∀d,∃b,(Op.equalIn (d+1) t (.slice ad 0 c) (.slice none 0 0)).run P w = .ok b w:=by
    intro d;cases ad with
    | none=>exact⟨true,by simp[Op.equalIn,run_underlying hu]⟩
    | some ad=>exact⟨false,by simp[Op.equalIn,run_underlying hu]⟩
   exact key 9999
  obtain⟨b,hr⟩:=hr;refine⟨b,?_⟩;simp only[execOp,ho,he,h2,Sem.run_bind,hg,Result.andThen_ok,binOp,hr];rfl
 obtain⟨b,hb⟩:=key;have hv1:Aq P o ev h nb {v:=.bool b}->True:=fun _=>trivial
 unfold Oper.wp;rw[hb];refine k {v:=.bool b} _ w φ ⟨b,rfl⟩ ⟨Bt.refl _ w,fun _ _=>rfl,fun b hb=>hn b (by simpa using hb),fun b r z hb h=>?_,fun b b' r z z' hb _ h _=>?_,.imm _ _ (.bool _),fun b blk hm=>by simp at hm,fun blk hm=>by simp at hm,?_,?_⟩
 .rw[hn b hb] at h;cases h
 .rw[hn b hb] at h;cases h
 .intro b blk hm;simp at hm
 .intro b blk hm;simp at hm
theorem cl97_e:CT Wu 73 [] [.lst []] [some (Blk.mk [] 1 true true none)] (.sl 0 0 0):=by
 refine CT.of Tryz.func73 (show Tryz.f73.body=some (zB Tryz.f73) from by kernel_rfl) (nL rfl) ?_;refine T.seq ?_;refine T.ops (st':=?st1) ?steps1 ?post1
 case steps1=>refine .av (.nils) rfl rfl rfl (by kernel_rfl) ?_;exact .nil _
 show T Wu 0 _ _ _;refine T.seq (T.seq ?_);refine T.opsN (.val (v:=.lst []) (noG rfl) rfl (nL rfl) (B0 rfl (hint:=.no) (R:={v:=.lst []}) (p:=True) (by kernel_rfl) trivial).1 (.one (S:=fun R=>∃b,R={v:=.bool b}) (noG rfl) (NN (e:=3) rfl (by kernel_rfl) rfl rfl) (fun R hR=>?_) (fun R hR=>?_)))
 .obtain⟨b,rfl⟩:=hR;exact⟨OpR.fits_value _ _,fun b hb=>by simp at hb,fun d hd=>by cases hd;exact nL rfl⟩
 obtain⟨b,rfl⟩:=hR;refine .nil ?_;cases b with
 | true=>
  refine T.cond_true rfl (T.seq ?_);refine T.ops (st':=?st2) ?steps2 ?post2
  case steps2=>refine .av (.nils) rfl rfl rfl (by kernel_rfl) ?_;exact .nil _
  refine T.ret ?_;refine⟨.inr rfl,.nils,⟨Tryz.f73.ntmps,[(0,.sl 0 0 0)],[some (Blk.mk [] 1 true true none)]⟩,rfl,Ren.less rfl (VI _) (fun s=>?_) (fun b blk hb=>?_),rfl,rfl,(nL rfl)⟩
  .cases s with
   | zero=>exact .nilS _ _
   | succ s=>exact .refl _
  .cases b with
   | zero=>simp[nth] at hb;subst hb;exact .inr ⟨VH _,rfl,rfl,rfl,rfl⟩
   | succ b=>simp[nth] at hb
 | false=>
  refine T.cond_false rfl (T.skip ?_);refine T.seq ?_;refine T.ops (st':=?st3) ?steps3 ?post3
  case steps3=>refine .new (v:=.sl 0 0 0) (blk:=Blk.mk [] 1 true true none) rfl rfl (nL rfl) (B0 rfl (hint:=.no) (R:={v:=.sl 0 0 0,new:=[Blk.mk [] 1 true true none]}) (p:=True) (by kernel_rfl) trivial).1 ?_;refine .av (.lst []) rfl rfl rfl (by kernel_rfl) ?_;refine .move (v:=.sl 1 0 0) (b:=0) (blk:=Blk.mk [] 1 true true none) rfl rfl (nL rfl) rfl rfl (VI _) (B0 rfl (hint:=.no) (R:={v:=.sl 1 0 0,dead:=[0],new:=[Blk.mk [] 1 true true none]}) (p:=0=0/\BG (nth [some (Blk.mk [] 1 true true none)]) 1 (.lst [])/\0+0<=9223372036854775807/\(0+0) * 8<=140737488355328) (by kernel_rfl) ⟨rfl,(fun e he=>by cases he),(by omega),(by omega)⟩).1 ?_;refine .av (.sl 1 0 0) rfl rfl rfl (by kernel_rfl) ?_;exact .nil _
  refine T.ret ?_;exact⟨.inr rfl,.sl 1 0 0,⟨Tryz.f73.ntmps,[(0,.sl 0 0 0)],[some (Blk.mk [] 1 true true none)]⟩,rfl,Ren.of (p:=True/\True/\True) [1] [] [0] (by kernel_rfl) ⟨trivial,trivial,trivial⟩ rfl rfl rfl,rfl,rfl,(nL rfl)⟩
theorem cl55_e:CT Wu 45 [] [.lst []] [some (Blk.mk [] 1 true true none)] (.sl 0 0 0):=by
 refine CT.of Tryz.func45 (show Tryz.f45.body=some (zB Tryz.f45) from by kernel_rfl) (nL rfl) ?_;refine T.seq ?_;refine T.ops (st':=?st1) ?steps1 ?post1
 case steps1=>refine .av (.nils) rfl rfl rfl (by kernel_rfl) ?_;exact .nil _
 show T Wu 0 _ _ _;refine T.seq (T.seq ?_);refine T.opsN (.val (v:=.lst []) (noG rfl) rfl (nL rfl) (B0 rfl (hint:=.no) (R:={v:=.lst []}) (p:=True) (by kernel_rfl) trivial).1 (.one (S:=fun R=>∃b,R={v:=.bool b}) (noG rfl) (NN (e:=4) rfl (by kernel_rfl) rfl rfl) (fun R hR=>?_) (fun R hR=>?_)))
 .obtain⟨b,rfl⟩:=hR;exact⟨OpR.fits_value _ _,fun b hb=>by simp at hb,fun d hd=>by cases hd;exact nL rfl⟩
 obtain⟨b,rfl⟩:=hR;refine .nil ?_;cases b with
 | true=>
  refine T.cond_true rfl (T.seq ?_);refine T.ops (st':=?st2) ?steps2 ?post2
  case steps2=>refine .av (.nils) rfl rfl rfl (by kernel_rfl) ?_;exact .nil _
  refine T.ret ?_;refine⟨.inr rfl,.nils,⟨Tryz.f45.ntmps,[(0,.sl 0 0 0)],[some (Blk.mk [] 1 true true none)]⟩,rfl,Ren.less rfl (VI _) (fun s=>?_) (fun b blk hb=>?_),rfl,rfl,(nL rfl)⟩
  .cases s with
   | zero=>exact .nilS _ _
   | succ s=>exact .refl _
  .cases b with
   | zero=>simp[nth] at hb;subst hb;exact .inr ⟨VH _,rfl,rfl,rfl,rfl⟩
   | succ b=>simp[nth] at hb
 | false=>
  refine T.cond_false rfl (T.skip ?_);refine T.seq ?_;refine T.ops (st':=?st3) ?steps3 ?post3
  case steps3=>refine .new (v:=.sl 0 0 0) (blk:=Blk.mk [] 1 true true none) rfl rfl (nL rfl) (B0 rfl (hint:=.no) (R:={v:=.sl 0 0 0,new:=[Blk.mk [] 1 true true none]}) (p:=True) (by kernel_rfl) trivial).1 ?_;refine .av (.lst []) rfl rfl rfl (by kernel_rfl) ?_;refine .move (v:=.sl 1 0 0) (b:=0) (blk:=Blk.mk [] 1 true true none) rfl rfl (nL rfl) rfl rfl (VI _) (B0 rfl (hint:=.no) (R:={v:=.sl 1 0 0,dead:=[0],new:=[Blk.mk [] 1 true true none]}) (p:=0=0/\BG (nth [some (Blk.mk [] 1 true true none)]) 1 (.lst [])/\0+0<=9223372036854775807/\(0+0) * 1<=140737488355328) (by kernel_rfl) ⟨rfl,(fun e he=>by cases he),(by omega),(by omega)⟩).1 ?_;refine .av (.sl 1 0 0) rfl rfl rfl (by kernel_rfl) ?_;exact .nil _
  refine T.ret ?_;exact⟨.inr rfl,.sl 1 0 0,⟨Tryz.f45.ntmps,[(0,.sl 0 0 0)],[some (Blk.mk [] 1 true true none)]⟩,rfl,Ren.of (p:=True/\True/\True) [1] [] [0] (by kernel_rfl) ⟨trivial,trivial,trivial⟩ rfl rfl rfl,rfl,rfl,(nL rfl)⟩
def Jy(c:Int):Option (Empty⊕Ret):=some (.inr ([],AV.tup [uV (u64.wrap (u64.wrap (u64.wrap (0 * c.fdiv 4294967296)+(u64.wrap (u64.wrap (0 * u64.wrap (iN (BitVec.ofInt 64 c &&& BitVec.ofInt 64 4294967295).toNat))+(u64.wrap (1 * u64.wrap (iN (BitVec.ofInt 64 c &&& BitVec.ofInt 64 4294967295).toNat))).fdiv 4294967296)).fdiv 4294967296)+(u64.wrap (u64.wrap (iN (BitVec.ofInt 64 (u64.wrap (u64.wrap (0 * u64.wrap (iN (BitVec.ofInt 64 c &&& BitVec.ofInt 64 4294967295).toNat))+(u64.wrap (1 * u64.wrap (iN (BitVec.ofInt 64 c &&& BitVec.ofInt 64 4294967295).toNat))).fdiv 4294967296)) &&& BitVec.ofInt 64 4294967295).toNat)+u64.wrap (1 * c.fdiv 4294967296))).fdiv 4294967296)),uV (u64.wrap (1 * c))]))
theorem mulS_ct(c:Int)(r:Ret)(h:Ac emT (Jy c) r):CT Wu 157 ([]) ([.int .u64 1,.int .u64 c]) r.1 r.2:=CT.mach (fn:=Tryz.f157) (c:=zB Tryz.f157) (S:=emS) (hd:=emH) Tryz.func157 (by kernel_rfl) (nL rfl) (fun s o ho=>match s,ho with | x,_=>x.elim) (fun o ho=>Scr.ok (X:=Jy c) ho mix (.ta [] (cw (aj t3 (ab aE (aG (ak (show Int.NonNeg (32:Int) from(by first | decide | exact Vb _))) s2) (ab aE (aG (ak (show Int.NonNeg (32:Int) from(by first | decide | exact Vb _))) s2) (ab (bg t3 s2) (aa (bD (ab (ak (show Int.NonNeg (32:Int) from(by first | decide | exact Vb _))) t3 s2))) (ck aE (aG (ak (show Int.NonNeg (32:Int) from(by first | decide | exact Vb _))) s2) (am (cK s2)) (bg t3 (aG t3 (u2 (ab (ak (show Int.NonNeg (32:Int) from(by first | decide | exact Vb _))) t3 s2)))) (bg t3 s2)))))))) (by kernel_rfl)) h
theorem mulS_fin:∀n:Fin 49,Jy ((n.val:Nat):Int)=some (.inr ([],AV.tup [AV.int .u64 0,AV.int .u64 ((n.val:Nat):Int)])):=fun n=>by
 have h:∀n:Fin 49,(match Jy ((n.val:Nat):Int) with | some (.inr ([],.tup [.int _ a,.int _ b]))=>decide (a=0)&&decide (b=((n.val:Nat):Int)) | _=>false)=true:=by decide +kernel
 have h:=h n;unfold Jy at h ⊢
 simp only[VD,decide_eq_true_eq] at h;rw[h.1,h.2]
theorem mul64_c(c:Int)(h:0<=c/\c<=48):CT Wu 157 [] [.int .u64 1,.int .u64 c] [] (.tup [.int .u64 0,.int .u64 c]):=by
 refine mulS_ct c ([],_) (.val ?_);have:=mulS_fin ⟨c.toNat,by omega⟩;have e:((c.toNat:Nat):Int)=c:=by omega
 simp only[e] at this;exact this
def Nk(c:Int):Option (Empty⊕Ret):=gu (0<=c/\c<=48) <|some (.inr ([],AV.tup [uV 0,uV c]))
theorem mulT_ct(c:Int)(r:Ret)(h:Ac emT (Nk c) r):CT Wu 141 ([]) ([.int .u64 1,.int .u64 c]) r.1 r.2:=CT.mach (fn:=Tryz.f141) (c:=zB Tryz.f141) (S:=emS) (hd:=emH) Tryz.func141 (by kernel_rfl) (nL rfl) (fun s o ho=>match s,ho with | x,_=>x.elim) (fun o ho=>Scr.ok (X:=Nk c) ho mix (.ra aD <|.gu fun a0=>have c0:=mul64_c c a0;.tb [] [] [(25,hK c0 [] [])] [] [] (cw (bc (bg (bu (c0)) ba) (am s2)))) (by kernel_rfl)) h
theorem mul_c(c:Int)(h:0<=c/\c<=48):CT Wu 141 [] [.int .u64 1,.int .u64 c] [] (.tup [.int .u64 0,.int .u64 c]):=by refine mulT_ct c ([],_) (.val ?_);unfold Nk;rw[Ab h]
inductive Fj where | l0 (v0:Int) (v1:List Int)
def KA(c:Int):Fj->St | .l0 v0 v1=>St.mk 48 [(7,AV.sl 0 0 (i64.wrap (u64.wrap c)).toNat),(8,iv v0)] [some (bK (Wn iv v1) 1)]
def Ms(c:Int):Option (Fj⊕Ret):=br (decide (c<0)) (none) (gu (0<=u64.wrap c/\u64.wrap c<=48) <|br (decide (9223372036854775807<u64.wrap c)) (none) (gu (0<=i64.wrap (u64.wrap c)) <|gu (8 * i64.wrap (u64.wrap c)<=281474976710656) <|gu (i64.wrap (u64.wrap c)<=9223372036854775807) <|some (.inl (.l0 (iN (min 1 (i64.wrap (u64.wrap c)).toNat)) (Wq (min 1 (i64.wrap (u64.wrap c)).toNat) [-1]++Wp (0+min 1 (i64.wrap (u64.wrap c)).toNat) (Wo (i64.wrap (u64.wrap c)).toNat 0))))))
def Mh(c v0:Int)(v1:List Int):Option (Fj⊕Ret):=br (decide (v0<iN (i64.wrap (u64.wrap c)).toNat)) (gu (0<=v0) <|gu (v0<=iN (i64.wrap (u64.wrap c)).toNat) <|gu (0+v0.toNat+((i64.wrap (u64.wrap c)).toNat-v0.toNat)<=(Wn iV v1).length) <|gu (0+(v0.toNat-Ws 0)<=(Wn iV v1).length) <|some (.inl (.l0 (i64.wrap (v0+iN (min (Wq (v0.toNat-Ws 0) (Wp 0 (Wn iV v1))).length ((i64.wrap (u64.wrap c)).toNat-v0.toNat)))) (Wq (0+v0.toNat) v1++Wq (min (Wq (v0.toNat-Ws 0) (Wp 0 (Wn iV v1))).length ((i64.wrap (u64.wrap c)).toNat-v0.toNat)) (Wq (v0.toNat-Ws 0) (Wp 0 v1))++Wp (0+v0.toNat+min (Wq (v0.toNat-Ws 0) (Wp 0 (Wn iV v1))).length ((i64.wrap (u64.wrap c)).toNat-v0.toNat)) v1)))) (some (.inr ([some (bK (Wn iV v1) 1)],AV.sl 0 0 (i64.wrap (u64.wrap c)).toNat)))
def QA(c:Int):Fj->Option (Fj⊕Ret) | .l0 v0 v1=>Mh c v0 v1
theorem rep_ct(c:Int)(r:Ret)(h:Ac (QA c) (Ms c) r):CT Wu 99 ([]) ([lI [-1],.int .i64 c]) r.1 r.2:=CT.mach (fn:=Tryz.f99) (c:=zB Tryz.f99) (S:=(KA c)) (hd:=Fj.ctorIdx) Tryz.func99 (by kernel_rfl) (nL rfl) (fun s o ho=>match s,ho with | .l0 v0 v1,ho=>Scr.ok (X:=Mh c v0 v1) ho mix (.ra cF <|.br (fun a0=>.gu fun a1=>.gu fun a2=>.gu fun a3=>.gu fun a4=>.lq [75] [] [] [] [] [0] [7,8] (up [] [(0,Wq (0+v0.toNat) (Wn iv v1)++Wq (min (Wq (v0.toNat-Ws 0) (Wp 0 (Wn iv v1))).length ((i64.wrap (u64.wrap c)).toNat-v0.toNat)) (Wq (v0.toNat-Ws 0) (Wp 0 (Wn iv v1)))++Wp (0+v0.toNat+min (Wq (v0.toNat-Ws 0) (Wp 0 (Wn iv v1))).length ((i64.wrap (u64.wrap c)).toNat-v0.toNat)) (Wn iv v1))] (KA c (.l0 (i64.wrap (v0+iN (min (Wq (v0.toNat-Ws 0) (Wp 0 (Wn iv v1))).length ((i64.wrap (u64.wrap c)).toNat-v0.toNat)))) (Wq (0+v0.toNat) v1++Wq (min (Wq (v0.toNat-Ws 0) (Wp 0 (Wn iv v1))).length ((i64.wrap (u64.wrap c)).toNat-v0.toNat)) (Wq (v0.toNat-Ws 0) (Wp 0 v1))++Wp (0+v0.toNat+min (Wq (v0.toNat-Ws 0) (Wp 0 (Wn iv v1))).length ((i64.wrap (u64.wrap c)).toNat-v0.toNat)) v1)))) (aF a0 (cH a1 (cz a2 (show iN (i64.wrap (u64.wrap c)).toNat<=iN (i64.wrap (u64.wrap c)).toNat by omega)) (bN (Int.le_refl 0) (ab a1 a2 (show iN (i64.wrap (u64.wrap c)).toNat<=iN (i64.wrap (u64.wrap c)).toNat by omega)) (ab (k2 (ab a3 (show nat_lit 1=nat_lit 1 from rfl) a4)) t3 s2))) t4) (by simp[up,upF,upV,upH,upB,KA,gL,boL,lI])) (fun a0=>.tc [74] [0] [] (cj a0 t3))) (by kernel_rfl)) (fun o ho=>Scr.ok (X:=Ms c) ho mix (.rv 1 [] [] [] (bo aw) <|.br (fun a0=>.no) (fun a0=>.gu fun a1=>have c0:=mul_c (u64.wrap c) a1;.rv 1 [20] [] [(18,hK c0 [] [])] (ax a0 (u2 (bP (bu (c0)) ba)) (am (ax t3 t3 t3))) <|.br (fun a2=>.no) (fun a2=>.gu fun a3=>.gu fun a4=>.gu fun a5=>.lq [52] [] [] [] [] [0] [7,8] (up [] [(0,[]++Wq (min 1 (i64.wrap (u64.wrap c)).toNat) [iv (-1)]++Wp (0+min 1 (i64.wrap (u64.wrap c)).toNat) (Wo (i64.wrap (u64.wrap c)).toNat (iv 0)))] (KA c (.l0 (iN (min 1 (i64.wrap (u64.wrap c)).toNat)) (Wq (min 1 (i64.wrap (u64.wrap c)).toNat) [-1]++Wp (0+min 1 (i64.wrap (u64.wrap c)).toNat) (Wo (i64.wrap (u64.wrap c)).toNat 0))))) (bm a2 (bN a3 (ab (show i64.wrap (u64.wrap c)<=i64.wrap (u64.wrap c) by omega) a4 a5) s2) (bN (show 0+(i64.wrap (u64.wrap c)).toNat<=(Wo (i64.wrap (u64.wrap c)).toNat (iv 0)).length by simp) (show ∀(e:AV),e∈[iv (-1:Int)]->e.cells.length=nat_lit 1 from(by first | decide | exact Vb _)) s2) t4) (by simp[up,upF,upV,upH,upB,KA,gL,boL,lI])))) (by kernel_rfl)) h
def rpV(c m:Nat):List Int:=Wo m (-1)++Wo (c-m) 0
theorem rpV_step{c m k:Nat}(hk:k<=m)(hc:m+k<=c):Wq (0+m) (rpV c m)++Wq k (Wq (m-0) (Wp 0 (rpV c m)))++Wp (0+m+k) (rpV c m)=rpV c (m+k):=by
 have e1:Wq m (rpV c m)=Wo m (-1):=by unfold rpV;rw[List.take_append_of_le_length (by simp)];simp
 have e2:Wp (m+k) (rpV c m)=Wo (c-(m+k)) 0:=by unfold rpV;rw[List.drop_append,List.drop_of_length_le (by simp),VQ,List.nil_append,List.drop_replicate];congr 1;omega
 rw[VL,Nat.sub_zero,List.drop_zero,e1,e2,List.take_replicate,Nat.min_eq_left hk,List.replicate_append_replicate];rfl
theorem Jx{c m:Nat}(h:m<=c):(rpV c m).length=c:=by unfold rpV;simp;omega
theorem wrapU{x:Int}(h1:0<=x)(h2:x<=9223372036854775807):u64.wrap x=x:=by simp only[IntKind.wrap,IntKind.bits,IntKind.signed];simp;omega
theorem wrapI{x:Int}(h1:0<=x)(h2:x<=9223372036854775807):i64.wrap x=x:=by simp only[IntKind.wrap,IntKind.bits,IntKind.signed];simp;omega
theorem rep_c(x:Int)(h:0<=x/\x<=48):CT Wu 99 [] [lI [-1],.int .i64 x] [some (Blk.mk ((Wo x.toNat (-1)).map (AV.int .i64)) 1 true true none)] (.sl 0 0 x.toNat):=by
 obtain⟨c,rfl⟩:∃c:Nat,x=c:=⟨x.toNat,by omega⟩;have h48:c<=48:=by omega
 refine rep_ct (c:Int) ([_],_) ?_;have wu:=wrapU (x:=(c:Int)) (by omega) (by omega);have wi:=wrapI (x:=(c:Int)) (by omega) (by omega);have hS:∀a b,QA (c:Int) (.l0 a b)=Mh c a b:=fun _ _=>rfl
 unfold Mh at hS;unfold Ms;simp only[wu,wi,VE] at hS ⊢
 rw[Ad (VA (by omega)),Ab (by omega),Ad (VA (by omega)),Ab (by omega),Ab (by omega),Ab (by omega)];have key:∀(d m:Nat),c-m<=d->m<=c->(1<=m\/c=0)->Ac (QA (c:Int)) (some (.inl (.l0 (m:Int) (rpV c m)))) (([some (Blk.mk ((Wo c (-1)).map (AV.int .i64)) 1 true true none)],.sl 0 0 c):Ret):=by
  intro d;induction d with
  | zero=>
   intro m hd hm _;obtain rfl:m=c:=by omega
   refine .to (hS _ _) ?_;rw[Ad (VA (by simp only[iN];omega))];have:rpV m m=Wo m (-1):=by unfold rpV;simp
   rw[this];exact .ret _
  | succ d ih=>
   intro m hd hm h1;by_cases he:m=c
   .exact ih m (by omega) hm h1
   have hl:=Jx hm;refine .to (hS _ _) ?_;have hk:min (Wq (m-Ws 0) (Wp 0 (Wn (AV.int i64) (rpV c m)))).length (c-m)=min m (c-m):=by rw[List.drop_zero,VX,Vy,hl];simp only[Int.toNat_zero];omega
   rw[Ah (VB (by simp only[iN];omega)),Ab (by omega),Ab (by simp only[iN];omega),VE,Ab (by rw[Vy,hl];omega),Ab (by rw[Vy,hl];simp only[Int.toNat_zero];omega),hk,wrapI (by simp only[iN];omega) (by simp only[iN];omega)];have e:=rpV_step (c:=c) (m:=m) (k:=min m (c-m)) (by omega) (by omega);have e2:(m:Int)+iN (min m (c-m))=((m+min m (c-m):Nat):Int):=by simp only[iN];omega
   rw[e2];have:=ih (m+min m (c-m)) (by omega) (by omega) (by omega);rw[<-e] at this;exact this
 have e0:(some (.inl (.l0 (iN (min 1 c)) (Wq (min 1 c) [-1]++Wp (0+min 1 c) (Wo c 0)))):Option (Fj⊕Ret))=some (.inl (.l0 ((min 1 c:Nat):Int) (rpV c (min 1 c)))):=by
  have:Wq (min 1 c) [-1]++Wp (0+min 1 c) (Wo c (0:Int))=rpV c (min 1 c):=by
   unfold rpV;cases c with
   | zero=>rfl
   | succ c=>rw[show min 1 (c+1)=1 by omega,VL,List.drop_replicate];rfl
  rw[this]
 rw[e0];exact key c (min 1 c) (by omega) (by omega) (by omega)
inductive Ef where | l0 (v0:Int) | l1 (v0:Int)
def svaSt(n:Aa)(q:Aj):Ef->St | .l0 v0=>St.mk 101 [(2,AV.ptr 0 0 0),(3,AV.ptr 1 0 0),(42,Wt (Wn iv q.bw)),(43,iv (iN (Wn iv q.bw).length)),(44,iv v0)] [some (bK [Ai n] 8),some (bK [AV.agg [Wt (boL q.cl),Wt (Wn iv q.bw),Wt (Wn iv q.pe)]] 3)] | .l1 v0=>St.mk 101 [(2,AV.ptr 0 0 0),(3,AV.ptr 1 0 0),(69,Wt (Wn iv q.pe)),(70,iv (iN (Wn iv q.pe).length)),(71,iv v0)] [some (bK [Ai n] 8),some (bK [AV.agg [Wt (boL q.cl),Wt (Wn iv q.bw),Wt (Wn iv q.pe)]] 3)]
def N8(n:Aa)(q:Aj):Option (Ef⊕Ret):=gu (RwV n) <|br (CC n != 0) (some (.inr ([],bV false))) (br (iN (boL q.cl).length != Bl n) (some (.inr ([],bV false))) (br (iN (Wn iV q.bw).length != Bl n) (some (.inr ([],bV false))) (br (decide (iN (Wn bA n.bs).length<iN (Wn iV q.pe).length)) (some (.inr ([],bV false))) (some (.inl (.l0 ((0:Int))))))))
def E2(n:Aa)(q:Aj)(v0:Int):Option (Ef⊕Ret):=br (decide (v0<iN (Wn iV q.bw).length)) (gu (0<=v0) <|el (q.bw) (v0.toNat) fun(x47:Int)=>br (decide (x47 < -1)) (some (.inr ([],bV false))) (br (decide (8<=x47)) (some (.inr ([],bV false))) (br (decide (0<=x47)) (el (q.cl) (v0.toNat) fun(x62:Bool)=>br (!x62) (some (.inr ([],bV false))) (some (.inl (.l0 (i64.wrap (v0+1)))))) (some (.inl (.l0 (i64.wrap (v0+1)))))))) (some (.inl (.l1 ((0:Int)))))
def E8(n:Aa)(q:Aj)(v0:Int):Option (Ef⊕Ret):=br (decide (v0<iN (Wn iV q.pe).length)) (gu (0<=v0) <|el (q.pe) (v0.toNat) fun(x74:Int)=>br (decide (x74<0)) (some (.inr ([],bV false))) (br (decide (iN (Wn bA n.bs).length<=x74)) (some (.inr ([],bV false))) (gu (0<=x74) <|el (q.cl) (x74.toNat) fun(x89:Bool)=>br x89 (some (.inr ([],bV false))) (gu (∀(e:AV),e∈Wn iV q.pe->e.cells.length=1) <|gu (v0<=iN (Wn iV q.pe).length) <|gu ((Wq (v0.toNat-Ws 0) (Wp (Ws 0) q.pe)).length<=9223372036854775807) <|br (AS (Wq (v0.toNat-Ws 0) (Wp (Ws 0) q.pe)) x74) (some (.inr ([],bV false))) (some (.inl (.l1 (i64.wrap (v0+1))))))))) (some (.inr ([],bV true)))
def svaStep(n:Aa)(q:Aj):Ef->Option (Ef⊕Ret) | .l0 v0=>E2 n q v0 | .l1 v0=>E8 n q v0
theorem sva_ct(n:Aa)(q:Aj)(r:Ret)(h:Ac (svaStep n q) (N8 n q) r):CT Wu 44 ([]) ([Ai n,sgA q]) r.1 r.2:=CT.mach (fn:=Tryz.f44) (c:=zB Tryz.f44) (S:=(svaSt n q)) (hd:=Ef.ctorIdx) Tryz.func44 (by kernel_rfl) (nL rfl) (fun s o ho=>match s,ho with | .l0 v0,ho=>Scr.ok (X:=E2 n q v0) ho mix (.ra bG <|.br (fun a0=>.gu fun a1=>.el fun x47 a2=>.rd [91] [(47,iv x47)] [] (af a0 (u2 (aB a1 (Ae (f:=iv) a2) aE))) <|.br (fun a3=>.ta [103] (cB (am (cx a3 (k5 cq))))) (fun a3=>.br (fun a4=>.ta [102,111] (cB (am (bt a3 (aG a4 (aC a4 (bL (be a4 a4)))))))) (fun a4=>.br (fun a5=>.el fun x62 a6=>.rd [102,110,117] [(62,bV x62)] [] (aL (bt a3 (cP a4 (ae a4 a5 (ai a5 (cJ a5 (an a1 (Ae (f:=bV) a6)) (be (bq a4 a5) a4))))))) <|.br (fun a7=>.ta [102,110,117,133] (bO a7)) (fun a7=>.pa [102,110,117,132] [0,1] [2,3,42,43,44] (cj a7 t8))) (fun a5=>.pa [102,110,116] [0,1] [2,3,42,43,44] (bI (am (bt a3 (u2 (bt a4 (aj a5 (aZ a5 (aV a5 (bq a4 a5) a4))))))) aw t8))))) (fun a0=>.pa [90] [0,1] [2,3,69,70,71] (aF a0 (am t2) t8))) (by kernel_rfl) | .l1 v0,ho=>Scr.ok (X:=E8 n q v0) ho mix (.ra bG <|.br (fun a0=>.gu fun a1=>.el fun x74 a2=>.rd [145] [(74,iv x74)] [] (af a0 (u2 (aB a1 (Ae (f:=iv) a2) aE))) <|.br (fun a3=>.ta [157] (cB (bb a3 (aZ a3 (bj a3 (k5 (bD (bL aD)))))))) (fun a3=>.br (fun a4=>.ta [156,171] (cB (am (b6 a3 t3 (aG a4 (aZ a4 (bj a4 (bL aD)))))))) (fun a4=>.gu fun a5=>.el fun x89 a6=>.br (fun a7=>.tb [156,170,185] [(89,bV x89)] [] [] [] (cB (am (b6 a3 t3 (u2 (bt a4 (cJ a4 (an a5 (Ae (f:=bV) a6)) (u2 (aZ a7 (bW a7)))))))))) (fun a7=>.gu fun a8=>.gu fun a9=>.gu fun a10=>have c0:=Oc (Wq (v0.toNat-Ws 0) (Wp (Ws 0) q.pe)) x74 a10;.rd [156,170,184] [(89,bV x89)] [(98,hK c0 [] [])] (aL (b6 a3 t3 (u2 (bt a4 (cJ a4 (an a5 (Ae (f:=bV) a6)) (u2 (bt a7 (aW a7 (k2 (ab a8 (Int.le_refl 0) (ab a1 a9 (show iN (Wn iv q.pe).length<=iN (Wn iv q.pe).length by omega)))) (bT a7 (bu (show CT Wu 92 [] [Wt (Wq (v0.toNat-Ws 0) (Wp (Ws 0) (Wn iv q.pe))),iv x74] [] (bV (AS (Wq (v0.toNat-Ws 0) (Wp (Ws 0) q.pe)) x74)) from CT.eqs (c0) (by first | (simp only[boL,VJ,Wj,List.map_take,List.map_drop,List.map_replicate,List.nil_append]<;>rfl) | (simp[gL,boL,lI,sA,bA]<;>rfl)) (by first | (simp only[boL,VJ,Wj,List.map_take,List.map_drop,List.map_replicate,List.nil_append]<;>rfl) | (simp[gL,boL,lI,sA,bA]<;>rfl)))) a7))))))))) <|.br (fun a11=>.ta [156,170,184,199] (bO a11)) (fun a11=>.pa [156,170,184,198] [0,1] [2,3,69,70,71] (cj a11 t8)))))) (fun a0=>.ta [144] (bO a0))) (by kernel_rfl)) (fun o ho=>Scr.ok (X:=N8 n q) ho mix (.ra cI <|.gu fun a0=>have c0:=L1 a0;.rc [(13,hK c0 [] [])] (al (cQ t9 (c0) ba)) <|.br (fun a1=>.ta [37] (cB (bb a1 (aZ a1 (bj a1 (k5 (bD (k2 cq)))))))) (fun a1=>.br (fun a2=>.ta [36,51] (cB (am (b6 a1 t3 (aG a2 (aZ a2 (bj a2 (k2 cq)))))))) (fun a2=>.br (fun a3=>.ta [36,50,65] (cB (am (b6 a1 t3 (u2 (b6 a2 t3 (aG a3 (aZ a3 (bW a3))))))))) (fun a3=>.rb [36,50,64] (aL (b6 a1 t3 (u2 (b6 a2 t3 (cP a3 (aI a3 (bT a3 t3 a3))))))) <|.br (fun a4=>.ta [36,50,64,81] (bO a4)) (fun a4=>.pa [36,50,64,80] [0,1] [2,3,42,43,44] (aF a4 (am t2) t8)))))) (by kernel_rfl)) h
def Qc(n:Aa)(q:Aj):Option (Empty⊕Ret):=gu (RwV n) <|br (A9 n) (gu (An n) <|some (.inr ([],bV (Gl n q)))) (some (.inr ([],bV false)))
theorem r20v_ct(n:Aa)(q:Aj)(r:Ret)(h:Ac emT (Qc n q) r):CT Wu 118 ([]) ([Ai n,sgA q]) r.1 r.2:=CT.mach (fn:=Tryz.f118) (c:=zB Tryz.f118) (S:=emS) (hd:=emH) Tryz.func118 (by kernel_rfl) (nL rfl) (fun s o ho=>match s,ho with | x,_=>x.elim) (fun o ho=>Scr.ok (X:=Qc n q) ho mix (.ra cI <|.gu fun a0=>.br (fun a1=>.gu fun a2=>have c0:=O6 a0;have c1:=fo_c q a2;.tb [15] [] [(6,hK c0 [] []),(10,hK c1 [] [])] [] [] (az (al (cQ t9 (c0) (cP a1 (aW a1 (cN t9 t4 (c1)) s2)))))) (fun a1=>have c0:=O6 a0;.tb [14] [] [(6,hK c0 [] [])] [] [] (az (al (cQ t9 (c0) (aG a1 (aC a1 (cc a1)))))))) (by kernel_rfl)) h
def Mz(l:List Bool):Option (Empty⊕Ret):=gu (boL l=[]->False) <|gu (∀(e:AV),e∈boL l->e.cells.length=1) <|gu (0+(boL l).length<=9223372036854775807) <|gu ((0+(boL l).length) * 1<=140737488355328) <|some (.inr ([some (bK ([]++boL l) 1)],AV.sl 0 0 (0+(boL l).length)))
theorem clb_ct(l:List Bool)(r:Ret)(h:Ac emT (Mz l) r):CT Wu 45 ([]) ([.lst (boL l)]) r.1 r.2:=CT.mach (fn:=Tryz.f45) (c:=zB Tryz.f45) (S:=emS) (hd:=emH) Tryz.func45 (by kernel_rfl) (nL rfl) (fun s o ho=>match s,ho with | x,_=>x.elim) (fun o ho=>Scr.ok (X:=Mz l) ho mix (.ra s2 <|.gu fun a0=>.ra (al (bo (ak a0))) <|.gu fun a1=>.gu fun a2=>.gu fun a3=>.tc [] [1] [] (aj (ay (ak (u2 (aB (show nat_lit 0=nat_lit 0 from rfl) (ab a1 a2 a3) s2)))) t3)) (by kernel_rfl)) h
def PK(l:List Int):Option (Empty⊕Ret):=gu (Wn iV l=[]->False) <|gu (∀(e:AV),e∈Wn iV l->e.cells.length=1) <|gu (0+(Wn iV l).length<=9223372036854775807) <|gu ((0+(Wn iV l).length) * 8<=140737488355328) <|some (.inr ([some (bK ([]++Wn iV l) 1)],AV.sl 0 0 (0+(Wn iV l).length)))
theorem cli_ct(l:List Int)(r:Ret)(h:Ac emT (PK l) r):CT Wu 73 ([]) ([lI l]) r.1 r.2:=CT.mach (fn:=Tryz.f73) (c:=zB Tryz.f73) (S:=emS) (hd:=emH) Tryz.func73 (by kernel_rfl) (nL rfl) (fun s o ho=>match s,ho with | x,_=>x.elim) (fun o ho=>Scr.ok (X:=PK l) ho mix (.ra s2 <|.gu fun a0=>.ra (al (bo (ak a0))) <|.gu fun a1=>.gu fun a2=>.gu fun a3=>.tc [] [1] [] (aj (ay (ak (u2 (aB (show nat_lit 0=nat_lit 0 from rfl) (ab a1 a2 a3) s2)))) t3)) (by kernel_rfl)) h
inductive Gf where | l0 (v0:Int) (v1:List Int)
def JI(q:Aj)(w:Int):Gf->St | .l0 v0 v1=>St.mk 39 [(1,iv w),(2,AV.ptr 0 0 0),(4,AV.ptr 1 0 0),(5,AV.ptr 2 0 0),(6,iv v0)] [some (bK [AV.agg [Wt (boL q.cl),Wt (Wn iv q.bw),Wt (Wn iv q.pe)]] 3),some (bK [AV.agg [AV.nils,AV.nils,AV.nils]] 3),some (Blk.mk [AV.agg [AV.sl 3 0 (boL q.cl).length,AV.sl 4 0 q.bw.length,AV.sl 5 0 v1.length]] 3 false true none),some (bK (boL q.cl) 1),some (bK (Wn iv q.bw) 1),some (bK (Wn iv v1) 1)]
def Qx(q:Aj)(w:Int):Option (Gf⊕Ret):=gu (∀(e:AV),e∈boL q.cl->e.cells.length=1) <|gu ((boL q.cl).length<=9223372036854775807) <|gu ((boL q.cl).length * 1<=140737488355328) <|gu (∀(e:AV),e∈Wn iV q.bw->e.cells.length=1) <|gu ((Wn iV q.bw).length<=9223372036854775807) <|gu ((Wn iV q.bw).length * 8<=140737488355328) <|some (.inl (.l0 ((0:Int)) ([])))
def IU(q:Aj)(w v0:Int)(v1:List Int):Option (Gf⊕Ret):=br (decide (v0<iN (Wn iV q.pe).length)) (gu (0<=v0) <|el (q.pe) (v0.toNat) fun(x24:Int)=>br (x24 != w) (el (q.pe) (v0.toNat) fun(x33:Int)=>gu ((Wn iV v1).length+[iV x33].length<=9223372036854775807) <|gu (((Wn iV v1).length+[iV x33].length) * 8<=140737488355328) <|some (.inl (.l0 (i64.wrap (v0+1)) (v1++[x33])))) (some (.inl (.l0 (i64.wrap (v0+1)) v1)))) (some (.inr ([some (bK (boL q.cl) 1),some (bK (Wn iV q.bw) 1),some (bK (Wn iV v1) 1)],AV.agg [AV.sl 0 0 (boL q.cl).length,AV.sl 1 0 q.bw.length,AV.sl 2 0 v1.length])))
def rcpStep(q:Aj)(w:Int):Gf->Option (Gf⊕Ret) | .l0 v0 v1=>IU q w v0 v1
theorem rcp_ct(q:Aj)(w:Int)(r:Ret)(h:Ac (rcpStep q w) (Qx q w) r):CT Wu 106 ([]) ([sgA q,.int .i64 w]) r.1 r.2:=CT.mach (fn:=Tryz.f106) (c:=zB Tryz.f106) (S:=(JI q w)) (hd:=Gf.ctorIdx) Tryz.func106 (by kernel_rfl) (nL rfl) (fun s o ho=>match s,ho with | .l0 v0 v1,ho=>Scr.ok (X:=IU q w v0 v1) ho mix (.ra cR <|.br (fun a0=>.gu fun a1=>.el fun x24 a2=>.rd [37] [(24,iv x24)] [] (bX a0 (aB a1 (Ae (f:=iv) a2) cM)) <|.br (fun a3=>.el fun x33 a4=>.gu fun a5=>.gu fun a6=>.lq [55] [(33,iv x33)] [] [] [] [0,1,2,3,4,7] [1,2,4,5,6] (up [] [(2,[AV.agg [AV.sl 3 0 (boL q.cl).length,AV.sl 4 0 q.bw.length,AV.sl 5 0 ((Wn iv v1).length+[iv x33].length)]]),(5,Wn iv v1++[iv x33])] (JI q w (.l0 (i64.wrap (v0+1)) (v1++[x33])))) (bm a3 (cb (aB a1 (Ae (f:=iv) a4) (aa (bH (show(Wn iv v1).length=v1.length by simp) (bv (show nat_lit 1=nat_lit 1 from rfl) (show 1<=[iv x33].length by simp) a5 a6) aD)))) aE (k2 (bp (al t4) t4))) (by simp[up,upF,upV,upH,upB,JI,gL,boL,lI])) (fun a3=>.pa [54] [0,1,2,3,4,5] [1,2,4,5,6] (b4 a3 (k2 (bp (al t4) t4))))) (fun a0=>.tc [36] [3,4,5] [] (ab (af a0 cu) t4 t4))) (by kernel_rfl)) (fun o ho=>Scr.ok (X:=Qx q w) ho mix (.ra bR <|.gu fun a0=>.gu fun a1=>.gu fun a2=>.gu fun a3=>.gu fun a4=>.gu fun a5=>.lq [] [] [] [] [(3005,1)] [0,1,4,2,3,5] [1,2,4,5,6] (up [] [(2,[AV.agg [AV.sl 3 0 (boL q.cl).length,AV.sl 4 0 (Wn iv q.bw).length,AV.sl 5 0 0]])] (JI q w (.l0 ((0:Int)) ([])))) (cO (bg (cL a0 a1 a2) (aa (ab (cL a3 a4 a5) t3 aS))) (k2 (bp (al t4) t4))) (by simp[up,upF,upV,upH,upB,JI,gL,boL,lI])) (by kernel_rfl)) h
inductive Iv where | l0 (v0:List Int) (v1 v2:Int)
def Oe(l:List Int)(w:Int):Iv->St | .l0 v0 v1 v2=>St.mk 42 [(0,AV.sl 0 0 v0.length),(1,AV.fn 152 [AV.ptr 1 0 0]),(5,iv v1),(6,iv v2)] [some (bK (Wn iv v0) 1),some (bK [iv w] 1)]
def Ps(l:List Int)(w:Int):Option (Iv⊕Ret):=gu (l.length<=1000000) <|br (CF l w == -1) (some (.inr ([some (bK (l.map (AV.int .i64)) 1),some (bK [.int .i64 w] 1)],AV.sl 0 0 l.length))) (some (.inl (.l0 l (CF l w) (i64.wrap (CF l w+1)))))
def I8(l:List Int)(w:Int)(v0:List Int)(v1 v2:Int):Option (Iv⊕Ret):=br (decide (v2<iN v0.length)) (gu (0<=v2) <|gu (v2<iN v0.length) <|el v0 (0+v2.toNat) fun(x25:Int)=>br (!x25==w) (gu (0<=v1) <|gu (v1<iN v0.length) <|gu ((0+v1.toNat).succ.le (Wn iV v0).length) <|some (.inl (.l0 (v0.set (0+v1.toNat) x25) (i64.wrap (v1+1)) (i64.wrap (v2+1))))) (some (.inl (.l0 v0 v1 (i64.wrap (v2+1)))))) (gu (0<=v1) <|gu (v1<=iN v0.length) <|gu ((0+v1.toNat+(v0.length-v1.toNat)).le (Wn iV v0).length) <|some (.inr ([some (bK (Wq (0+v1.toNat) (Wn iV v0)++Wo (v0.length-v1.toNat) (iV 0)++Wp (0+v1.toNat+(v0.length-v1.toNat)) (Wn iV v0)) 1),some (bK [iV w] 1)],AV.sl 0 0 (v1.toNat-Ws 0))))
def S6(l:List Int)(w:Int):Iv->Option (Iv⊕Ret) | .l0 v0 v1 v2=>I8 l w v0 v1 v2
theorem dlf_ct(l:List Int)(w:Int)(r:Ret)(h:Ac (S6 l w) (Ps l w) r):CT Wu 151 ([some (bK (l.map (AV.int .i64)) 1),some (bK [.int .i64 w] 1)]) ([.sl 0 0 l.length,.fn 152 [.ptr 1 0 0]]) r.1 r.2:=CT.mach (fn:=Tryz.f151) (c:=zB Tryz.f151) (S:=(Oe l w)) (hd:=Iv.ctorIdx) Tryz.func151 (by kernel_rfl) (nL rfl) (fun s o ho=>match s,ho with | .l0 v0 v1 v2,ho=>Scr.ok (X:=I8 l w v0 v1 v2) ho mix (.ra cF <|.br (fun a0=>.gu fun a1=>.gu fun a2=>.el fun x25 a3=>have c0:=wh1_c x25 (w);.rv 1 [39] [(25,iv x25)] [(28,hK c0 [1] [])] (ax a0 (aa (b7 (an a1 a2) (Ae (f:=iv) a3) s2)) (bg (cm (c0)) s2)) <|.br (fun a4=>.gu fun a5=>.gu fun a6=>.gu fun a7=>.lq [59] [] [] [] [] [0,1] [0,1,5,6] (up [(0,AV.sl 0 0 v0.length)] [(0,(Wn iv v0).set (0+v1.toNat) (iv x25))] (Oe l w (.l0 (v0.set (0+v1.toNat) x25) (i64.wrap (v1+1)) (i64.wrap (v2+1))))) (ar a4 (ax (am (af (an a5 a6) (k2 a7))) aE aE) (ak (u2 t5))) (by simp[up,upF,upV,upH,upB,Oe,gL,boL,lI])) (fun a4=>.pa [58] [0,1] [0,1,5,6] (b4 a4 (ak (u2 t5))))) (fun a0=>.gu fun a1=>.gu fun a2=>.gu fun a3=>.tc [38] [0,1] [] (bm a0 (cD (an a1 (cz a2 (show iN v0.length<=iN v0.length by omega))) (ak a3)) (bN (Int.le_refl 0) (ab a1 a2 (show iN v0.length<=iN v0.length by omega)) s2) t4))) (by kernel_rfl)) (fun o ho=>Scr.ok (X:=Ps l w) ho mix (.ra s2 <|.gu fun a0=>have c0:=ixw_c l w a0;.rv 1 [] [] [(10,hK c0 [0,1] [])] (bx (bg (k3 (u2 (aM (c0)))) s2)) <|.br (fun a1=>.tc [25] [0,1] [] (cj a1 t4)) (fun a1=>.pa [24] [0,1] [0,1,5,6] (b4 a1 (ak (u2 t5))))) (by kernel_rfl)) h
def Qq(n:Aa):Option (Empty⊕Ret):=gu (RwV n) <|br (CC n != 0) (some (.inr ([],AV.tup [AV.agg [AV.nils,AV.nils,AV.nils],iV (CC n)]))) (gu (0<=Bl n) <|gu (1 * Bl n<=281474976710656) <|gu (Bl n<=9223372036854775807) <|gu (0<=Bl n/\Bl n<=48) <|gu (∀(blk:Blk),blk∈[bK (Wn iV (Wo (Bl n).toNat (-1))) 1]->AY blk) <|some (.inr ([],AV.tup [AV.agg [Wt (Wo (Bl n).toNat (bV false)),Wt (Wn iV (Wo (Bl n).toNat (-1))),AV.nils],iV 0])))
theorem n14_ct(n:Aa)(r:Ret)(h:Ac emT (Qq n) r):CT Wu 49 ([]) ([Ai n]) r.1 r.2:=CT.mach (fn:=Tryz.f49) (c:=zB Tryz.f49) (S:=emS) (hd:=emH) Tryz.func49 (by kernel_rfl) (nL rfl) (fun s o ho=>match s,ho with | x,_=>x.elim) (fun o ho=>Scr.ok (X:=Qq n) ho mix (.ra (bz t3) <|.gu fun a0=>have c0:=L1 a0;.rv 1 [] [] [(8,hK c0 [] [])] (bx (cQ t9 (c0) ba)) <|.br (fun a1=>.ta [25] (bF a1 (ak (aG au s2)) t4)) (fun a1=>.gu fun a2=>.gu fun a3=>.gu fun a4=>.gu fun a5=>.gu fun a6=>have c1:=rep_c (Bl n) a5;.tb [24] [] [(19,hK c1 [] [3])] [] [2,4] (bF a1 (u2 (aB a2 (ab (show Bl n<=Bl n by omega) a3 a4) (ak (u2 (aB (show nat_lit 1=nat_lit 1 from rfl) (aU (c1) a6) (bf au t2)))))) (bq (show(Bl n).toNat=(Wo (Bl n).toNat (bV false)).length by simp) (show(Bl n).toNat=(Wn iv (Wo (Bl n).toNat (-1))).length by simp))))) (by kernel_rfl)) h
def wo(l:List Int)(x:Int):List Int:=l.filter (fun y=>y != x)
theorem L8{l:List Int}{x:Int}{i:Nat}(h:i<l.length):wo (l.take (i+1)) x=wo (l.take i) x++(if (l.getD i 0 != x)=true then [l.getD i 0] else []):=by unfold wo;rw[List.take_add_one,Ay 0 h,List.filter_append];congr 1;show List.filter _ [l.getD i 0]=_;rw[List.filter_cons];rfl
theorem wo_len(l:List Int)(x:Int):(wo l x).length<=l.length:=List.length_filter_le _ _
theorem NF(cl:List Bool)(bw pe:List Int)(w:Int)(h1:cl.length<=1000000)(h2:bw.length<=1000000)(h3:pe.length<=1000000):
  CT Wu 106 [] [sgA ⟨cl,bw,pe⟩,.int .i64 w] [some (Blk.mk (boL cl) 1 true true none),some (Blk.mk (bw.map (AV.int .i64)) 1 true true none),some (Blk.mk ((wo pe w).map (AV.int .i64)) 1 true true none)] (.agg [.sl 0 0 (boL cl).length,.sl 1 0 bw.length,.sl 2 0 (wo pe w).length]):=by
 refine rcp_ct ⟨cl,bw,pe⟩ w ([_,_,_],_) ?_;have hL:=A5 cl;unfold Qx;rw[Ab (La _),Ab (by rw[hL];show cl.length<=_;omega),Ab (by rw[hL];show cl.length * 1<=_;omega),Ab (GP _),Ab (by rw[Vy];show bw.length<=_;omega),Ab (by rw[Vy];show bw.length * 8<=_;omega)];refine Bb (fun i=>Gf.l0 (i:Int) (wo (pe.take i) w)) pe.length (fun i hi h=>?_) ?_
 .refine .to (show IU ⟨cl,bw,pe⟩ w i _=_ from ?_) h;have hw:=wo_len (pe.take i) w;rw[VX] at hw;unfold IU;simp only;rw[CU 0 hi,L8 hi];cases hx:pe.getD i 0 != w with
  | false=>rw[Ad rfl,Vu (by simp),List.append_nil,zW i (by omega)]
  | true=>rw[Ah rfl,elG 0 hi,Ab (by simp only[Vy,Wa,Wb];omega),Ab (by simp only[Vy,Wa,Wb];omega),Vt rfl,zW i (by omega)]
 .refine .to (show IU ⟨cl,bw,pe⟩ w pe.length _=_ from ?_) (.ret _);unfold IU;simp only;rw[AN,List.take_length]
theorem P8(l:List Bool)(hl:l.length<=1000000):CT Wu 45 [] [.lst (boL l)] [some (Blk.mk (boL l) 1 true true none)] (.sl 0 0 (boL l).length):=by
 have hL:=A5 l;by_cases h:l=[]
 .subst h;exact cl55_e
 refine clb_ct l ([_],_) (.val ?_);unfold Mz;rw[Ab (fun e=>h (by unfold boL at e;exact List.map_eq_nil_iff.1 e)),Ab (La _),Ab (by omega),Ab (by omega),List.nil_append,VL]
theorem Qp(l:List Int)(hl:l.length<=1000000):CT Wu 73 [] [lI l] [some (Blk.mk (l.map (AV.int .i64)) 1 true true none)] (.sl 0 0 l.length):=by
 by_cases h:l=[]
 .subst h;exact cl97_e
 refine cli_ct l ([_],_) (.val ?_);unfold PK;rw[Ab (fun e=>h (List.map_eq_nil_iff.1 e)),Ab (GP _),Ab (by rw[Vy];omega),Ab (by rw[Vy];omega),List.nil_append,VL,Vy]
theorem JG{n:Aa}(cl:List Bool)(bw pe:List Int)(hrw:RwV n):CT Wu 44 [] [Ai n,sgA ⟨cl,bw,pe⟩] [] (.bool (BD n ⟨cl,bw,pe⟩)):=by
 generalize hs:(⟨cl,bw,pe⟩:Aj)=s;refine sva_ct n s ([],_) ?_;unfold N8 BD CC Bl;rw[Ab hrw];cases hv:A9 n with
 | false=>exact .ret _
 | true=>
 have hv:=BF.1 hv;obtain⟨h48,hnb⟩:=GI hv;unfold Gl;rw[Vt rfl,Vt rfl,Ad (by rfl),A5,Vy,Vy,Vy,Bool.true_and];by_cases h1:s.cl.length=Am n
 case neg=>rw[Ah (Wi.2 (by simp only[iN];omega)),AB h1];exact .ret _
 rw[Ad (by rw[h1];simp),AA h1,Bool.true_and];by_cases h2:s.bw.length=Am n
 case neg=>rw[Ah (Wi.2 (by simp only[iN];omega)),AB h2];exact .ret _
 rw[Ad (by rw[h2];simp),AA h2,Bool.true_and];by_cases h3:n.bs.length<s.pe.length
 .rw[Ah (AA (by simp only[iN];omega))];have:(fnd (bdP n.bs.length s) 0 s.pe.length).isNone=false:=by
   cases hf:fnd (bdP n.bs.length s) 0 s.pe.length with
   | some i=>rfl
   | none=>
    have:=N2 (nb:=n.bs.length) (s:=s) (VH _) fun j hj=>HQ hf j (VI _) (by omega)
    omega
  rw[this,Bool.and_false];exact .ret _
 rw[Ad (AB (by simp only[iN];omega))];refine(LI (fun i=>Ef.l0 (i:Int)) s.bw.length (bdW s) (rF:=fun _=>(([],.bool false):Ret)) (r:=([],.bool (fnd (bdP n.bs.length s) 0 s.pe.length).isNone)) (fun i hi _ hp=>?_) (fun i x hi _ hp hx=>?_) (fun _=>?_)).res (by cases fnd (bdW s) 0 s.bw.length<;>rfl)
 .refine .to (show E2 n s i=_ from ?_) (.ret _);unfold E2;unfold bdW at hp;rw[CU 0 hi];cases hd1:decide (s.bw.getD i 0 < -1) with
  | true=>rw[Ah rfl]
  | false=>
   rw[hd1,Vq] at hp;rw[Ad rfl];cases hd2:decide (8<=s.bw.getD i 0) with
   | true=>rw[Ah rfl]
   | false=>rw[hd2,Vq,VD] at hp;rw[Ad rfl,Ah hp.1,elG true (show i<s.cl.length by omega),Ah hp.2]
 .refine .to (show E2 n s i=_ from ?_) hx;unfold E2;unfold bdW at hp;simp only[Bool.or_eq_false_iff] at hp;rw[CU 0 hi,Ad hp.1,Ad hp.2.1,zW i (by omega)];cases h0:decide (0<=s.bw.getD i 0) with
  | false=>rw[Ad rfl]
  | true=>have hq:=hp.2.2;rw[h0,Bool.true_and] at hq;rw[Ah rfl,elG true (show i<s.cl.length by omega),Ad hq]
 .refine .to (show E2 n s s.bw.length=_ from ?_) ?_ (y:=some (.inl (.l1 ((0:Nat):Int))))
  .unfold E2;rw[AN];rfl
  refine(LI (fun i=>Ef.l1 (i:Int)) s.pe.length (bdP n.bs.length s) (rF:=fun _=>(([],.bool false):Ret)) (r:=([],.bool true)) (fun i hi hj hp=>?_) (fun i x hi hj hp hx=>?_) (fun _=>?_)).res (by cases fnd (bdP n.bs.length s) 0 s.pe.length<;>rfl)
  .refine .to (show E8 n s i=_ from ?_) (.ret _);unfold E8;unfold bdP at hp;rw[CU 0 hi];by_cases hd1:s.pe.getD i 0<0
   .rw[Ah (AA hd1)]
   rw[AB hd1,Vq] at hp;rw[Ad (AB hd1)];by_cases hd2:(n.bs.length:Int)<=s.pe.getD i 0
   .rw[Ah (AA (by rw[Vy];exact hd2))]
   rw[AB hd2,Vq] at hp;rw[Ad (AB (by rw[Vy];exact hd2)),Ab (by omega),Al (Ay true (show(s.pe.getD i 0).toNat<s.cl.length by omega))];cases hd3:s.cl.getD (s.pe.getD i 0).toNat true with
   | true=>rw[Ah rfl]
   | false=>rw[hd3,Vq] at hp;rw[Ad rfl,Ab (GP _),Ab (by simp only[iN,Vy];omega),LA,Ab (by rw[VX];omega),Ah hp]
  .refine .to (show E8 n s i=_ from ?_) hx;unfold E8;unfold bdP at hp;simp only[Bool.or_eq_false_iff,decide_eq_false_iff_not] at hp;rw[CU 0 hi,Ad (AB hp.1),Ad (AB (by rw[Vy];exact hp.2.1)),Ab (by omega),Al (Ay true (show(s.pe.getD i 0).toNat<s.cl.length by omega)),Ad hp.2.2.1,Ab (GP _),Ab (by simp only[iN,Vy];omega),LA,Ab (by rw[VX];omega),Ad hp.2.2.2,zW i (by omega)]
  .refine .to (show E8 n s s.pe.length=_ from ?_) (.ret _);unfold E8;rw[AN]
theorem Pe{n:Aa}(cl:List Bool)(bw pe:List Int)(hrw:RwV n):CT Wu 118 [] [Ai n,sgA ⟨cl,bw,pe⟩] [] (.bool (BD n ⟨cl,bw,pe⟩)):=by
 refine r20v_ct n ⟨cl,bw,pe⟩ ([],_) (.val ?_);unfold Qc BD;rw[Ab hrw];cases hv:A9 n with
 | false=>rfl
 | true=>rw[Ah rfl,Ab (BF.1 hv)];rfl
def nsO(n:Aa):Aj:=⟨Wo (Am n) false,Wo (Am n) (-1),[]⟩
def nsE(n:Aa):Int:=if A9 n=true then 0 else 20
def nsS(n:Aa):Aj:=if A9 n=true then nsO n else ⟨[],[],[]⟩
theorem Tc(k:Nat):Wo k (AV.bool false)=boL (Wo k false):=by unfold boL;rw[List.map_replicate]
theorem n14_c{n:Aa}(hrw:RwV n):CT Wu 49 [] [Ai n] [] (.tup [sgA (nsS n),.int .i64 (nsE n)]):=by
 have h:=n14_ct n;unfold Qq CC Bl at h;unfold nsS nsE;cases hv:A9 n with
 | false=>rw[hv] at h;exact CT.w2 (h ([],_) (.val (by rw[Ab hrw];rfl)))
 | true=>
  have h48:=GI (BF.1 hv);rw[hv] at h;have k:=CT.w2 (h ([],.tup [.agg [.lst (Wo (Am n) (AV.bool false)),.lst (Wn (AV.int .i64) (Wo (Am n) (-1))),.nils],.int .i64 0]) (.val (by
   rw[Ab hrw,Vt rfl,Vt rfl,Ad (by rfl),Ab (by omega),Ab (by omega),Ab (by omega),Ab (by omega)];rw[Ab (fun blk hb=>by
    rw[Vn.1 hb];intro e he c hc;obtain⟨x,_,rfl⟩:=V0.1 he;rw[Vn.1 hc];rfl)]
   rfl)))
  rw[Tc] at k;exact k
def ansEn(q:Int):Option (Empty⊕Ret):=some (.inr ([],AV.agg [iV q,iV 0]))
theorem ans_ct(q:Int)(r:Ret)(h:Ac emT (ansEn q) r):CT Wu 56 ([]) ([.int .i64 q]) r.1 r.2:=CT.mach (fn:=Tryz.f56) (c:=zB Tryz.f56) (S:=emS) (hd:=emH) Tryz.func56 (by kernel_rfl) (nL rfl) (fun s o ho=>match s,ho with | x,_=>x.elim) (fun o ho=>Scr.ok (X:=ansEn q) ho mix (.ta [] (cw (u2 (aR (al au))))) (by kernel_rfl)) h
def OG(q:Int):Option (Empty⊕Ret):=br (q==3) (some (.inr ([],iV 2))) (br (q==4) (some (.inr ([],iV 3))) (some (.inr ([],iV 5))))
theorem aft_ct(q:Int)(r:Ret)(h:Ac emT (OG q) r):CT Wu 67 ([]) ([.int .i64 q]) r.1 r.2:=CT.mach (fn:=Tryz.f67) (c:=zB Tryz.f67) (S:=emS) (hd:=emH) Tryz.func67 (by kernel_rfl) (nL rfl) (fun s o ho=>match s,ho with | x,_=>x.elim) (fun o ho=>Scr.ok (X:=OG q) ho mix (.rv 2 [] [] [] (u2 (bx s2)) <|.br (fun a0=>.ta [9] (bO a0)) (fun a0=>.rb [8] (bx a0) <|.br (fun a1=>.ta [13] (bO a1)) (fun a1=>.ta [12] (bO a1)))) (by kernel_rfl)) h
theorem AU(q:Int):CT Wu 56 [] [.int .i64 q] [] (.agg [.int .i64 q,.int .i64 0]):=ans_ct q ([],_) (.val rfl)
@[irreducible] def BL(q:Int):Int:=match q==3 with | true=>2 | false=>match q==4 with | true=>3 | false=>5
theorem Kk(q:Int):CT Wu 67 [] [.int .i64 q] [] (.int .i64 (BL q)):=by
 refine aft_ct q ([],_) (.val ?_);unfold OG BL;cases q==3 with
 | true=>rfl
 | false=>cases q==4 with
  | true=>rfl
  | false=>rfl
theorem aftZ_rng(q:Int):0<=BL q/\BL q<=5:=by unfold BL;split;omega;split<;>omega
inductive Fh where | l0 (v0:Int) (v1:List Bool)
def OM(q:Aj):Fh->St | .l0 v0 v1=>St.mk 23 [(1,AV.ptr 0 0 0),(3,AV.sl 1 0 (boL q.cl).length),(4,iv v0)] [some (bK [AV.agg [Wt (boL q.cl),Wt (Wn iv q.bw),Wt (Wn iv q.pe)]] 3),some (bK (Wn bV v1) 1)]
def Mx(q:Aj):Option (Fh⊕Ret):=gu (∀(e:AV),e∈boL q.cl->e.cells.length=1) <|gu ((boL q.cl).length<=9223372036854775807) <|gu ((boL q.cl).length * 1<=140737488355328) <|some (.inl (.l0 ((0:Int)) (q.cl)))
def I2(q:Aj)(v0:Int)(v1:List Bool):Option (Fh⊕Ret):=br (decide (v0<iN (Wn iV q.pe).length)) (gu (0<=v0) <|el (q.pe) (v0.toNat) fun(x19:Int)=>gu (0<=x19) <|gu (x19<iN (boL q.cl).length) <|gu ((0+x19.toNat).succ.le (Wn bV v1).length) <|some (.inl (.l0 (i64.wrap (v0+1)) (v1.set (0+x19.toNat) true)))) (some (.inr ([some (bK (Wn bV v1) 1)],AV.sl 0 0 (boL q.cl).length)))
def ceKStep(q:Aj):Fh->Option (Fh⊕Ret) | .l0 v0 v1=>I2 q v0 v1
theorem ceK_ct(q:Aj)(r:Ret)(h:Ac (ceKStep q) (Mx q) r):CT Wu 108 ([]) ([sgA q]) r.1 r.2:=CT.mach (fn:=Tryz.f108) (c:=zB Tryz.f108) (S:=(OM q)) (hd:=Fh.ctorIdx) Tryz.func108 (by kernel_rfl) (nL rfl) (fun s o ho=>match s,ho with | .l0 v0 v1,ho=>Scr.ok (X:=I2 q v0 v1) ho mix (.ra cR <|.br (fun a0=>.gu fun a1=>.el fun x19 a2=>.gu fun a3=>.gu fun a4=>.gu fun a5=>.lq [25] [(19,iv x19)] [] [] [] [0,1] [1,3,4] (up [] [(1,(Wn bV v1).set (0+x19.toNat) (bV true))] (OM q (.l0 (i64.wrap (v0+1)) (v1.set (0+x19.toNat) true)))) (bm a0 (ah (bH a1 (Ae (f:=iv) a2) (af (an a3 a4) (ak a5)))) aE t6) (by simp[up,upF,upV,upH,upB,OM,gL,boL,lI])) (fun a0=>.tc [24] [1] [] (cj a0 t3))) (by kernel_rfl)) (fun o ho=>Scr.ok (X:=Mx q) ho mix (.ra bR <|.gu fun a0=>.gu fun a1=>.gu fun a2=>.pa [] [0,1] [1,3,4] (cO (bg (cL a0 a1 a2) s2) t6)) (by kernel_rfl)) h
inductive Gz where | l0 (v0:List Int) (v1:Int)
def Jm(l:List UsD):Gz->St | .l0 v0 v1=>St.mk 28 [(0,Wt (Wn usA l)),(3,AV.sl 0 0 v0.length),(4,iv v1)] [some (bK (Wn iv v0) 1)]
def hoKEn(l:List UsD):Option (Gz⊕Ret):=some (.inl (.l0 ([]) ((0:Int))))
def Je(l:List UsD)(v0:List Int)(v1:Int):Option (Gz⊕Ret):=br (decide (v1<iN (Wn usA l).length)) (gu (0<=v1) <|el l (v1.toNat) fun(x13:UsD)=>br (A7 x13.s) (el l (v1.toNat) fun(x19:UsD)=>gu ((Wn iV v0).length+[iV x19.hm].length<=9223372036854775807) <|gu (((Wn iV v0).length+[iV x19.hm].length) * 8<=140737488355328) <|some (.inl (.l0 (v0++[x19.hm]) (i64.wrap (v1+1))))) (gu ((Wn iV v0).length+1<=9223372036854775807) <|gu (((Wn iV v0).length+1) * 8<=140737488355328) <|some (.inl (.l0 (v0++[-2]) (i64.wrap (v1+1)))))) (some (.inr ([some (bK (Wn iV v0) 1)],AV.sl 0 0 v0.length)))
def SG(l:List UsD):Gz->Option (Gz⊕Ret) | .l0 v0 v1=>Je l v0 v1
theorem hoK_ct(l:List UsD)(r:Ret)(h:Ac (SG l) (hoKEn l) r):CT Wu 116 ([]) ([.lst (l.map usA)]) r.1 r.2:=CT.mach (fn:=Tryz.f116) (c:=zB Tryz.f116) (S:=(Jm l)) (hd:=Gz.ctorIdx) Tryz.func116 (by kernel_rfl) (nL rfl) (fun s o ho=>match s,ho with | .l0 v0 v1,ho=>Scr.ok (X:=Je l v0 v1) ho mix (.ra cF <|.br (fun a0=>.gu fun a1=>.el fun x13 a2=>have c0:=MB (x13.s) (x13.lv) (x13.hm);.rd [17] [(13,usA x13)] [(15,hK c0 [] [])] (af a0 (bN a1 (Ae (f:=usA) a2) (bo (bc aP (c0))))) <|.br (fun a3=>.el fun x19 a4=>.gu fun a5=>.gu fun a6=>.lq [31] [(19,usA x19)] [] [] [] [2] [0,3,4] (up [(3,AV.sl 0 0 ((Wn iv v0).length+[iv x19.hm].length))] [(0,Wn iv v0++[iv x19.hm])] (Jm l (.l0 (v0++[x19.hm]) (i64.wrap (v1+1))))) (bm a3 (cH a1 (Ae (f:=usA) a4) (cH (show(Wn iv v0).length=v0.length by simp) (bv (show nat_lit 1=nat_lit 1 from rfl) (show 1<=[iv x19.hm].length by simp) a5 a6) s2)) aE t5) (by simp[up,upF,upV,upH,upB,Jm,gL,boL,lI,usA])) (fun a3=>.gu fun a4=>.gu fun a5=>.lq [30] [] [] [] [] [2] [0,3,4] (up [(3,AV.sl 0 0 ((Wn iv v0).length+1))] [(0,Wn iv v0++[iv (-2)])] (Jm l (.l0 (v0++[-2]) (i64.wrap (v1+1))))) (bm a3 (u2 (ak (aB (show(Wn iv v0).length=v0.length by simp) (bv (show nat_lit 1=nat_lit 1 from rfl) (show nat_lit 1<=nat_lit 1 from(by first | exact nL rfl | decide)) a4 a5) s2))) aE t5) (by simp[up,upF,upV,upH,upB,Jm,gL,boL,lI,usA]))) (fun a0=>.tc [16] [0] [] (cj a0 t3))) (by kernel_rfl)) (fun o ho=>Scr.ok (X:=hoKEn l) ho mix (.pb [] [] [] [(3,1)] [0] [0,3,4] (aj aE t5)) (by kernel_rfl)) h
inductive Ge where | l0 (v0:Int)
def ts3St(l:List TsD):Ge->St | .l0 v0=>St.mk 26 [(0,Wt (Wn tsA l)),(1,Wt (Wn tsA l)),(5,iv v0)] []
def PQ(l:List TsD):Option (Ge⊕Ret):=br (iN (Wn tsA l).length != iN (Wn tsA l).length) (some (.inr ([],bV false))) (some (.inl (.l0 ((0:Int)))))
def Ic(l:List TsD)(v0:Int):Option (Ge⊕Ret):=br (decide (v0<iN (Wn tsA l).length)) (gu (0<=v0) <|el l (v0.toNat) fun(x19:TsD)=>el l (v0.toNat) fun(x23:TsD)=>br (!(x19.p==x23.p&&(x19.d==x23.d&&(x19.s==x23.s&&(x19.q==x23.q&&(x19.ov==x23.ov&&true)))))) (some (.inr ([],bV false))) (some (.inl (.l0 (i64.wrap (v0+1)))))) (some (.inr ([],bV true)))
def ts3Step(l:List TsD):Ge->Option (Ge⊕Ret) | .l0 v0=>Ic l v0
theorem ts3_ct(l:List TsD)(r:Ret)(h:Ac (ts3Step l) (PQ l) r):CT Wu 43 ([]) ([.lst (l.map tsA),.lst (l.map tsA)]) r.1 r.2:=CT.mach (fn:=Tryz.f43) (c:=zB Tryz.f43) (S:=(ts3St l)) (hd:=Ge.ctorIdx) Tryz.func43 (by kernel_rfl) (nL rfl) (fun s o ho=>match s,ho with | .l0 v0,ho=>Scr.ok (X:=Ic l v0) ho mix (.ra cF <|.br (fun a0=>.gu fun a1=>.el fun x19 a2=>.el fun x23 a3=>.rd [29] [(19,tsA x19),(23,tsA x23)] [] (af a0 (bN a1 (Ae (f:=tsA) a2) (am (bH a1 (Ae (f:=tsA) a3) aD)))) <|.br (fun a4=>.ta [51] (bO a4)) (fun a4=>.pa [50] [] [0,1,5] (b4 a4 t4))) (fun a0=>.ta [28] (bO a0))) (by kernel_rfl)) (fun o ho=>Scr.ok (X:=PQ l) ho mix (.rv 1 [] [] [] (bo (ah aD)) <|.br (fun a0=>.ta [21] (bO a0)) (fun a0=>.pa [20] [] [0,1,5] (cO a0 t4))) (by kernel_rfl)) h
inductive FG where | l0 (v0:Int)
def sg3St(q:Aj):FG->St | .l0 v0=>St.mk 47 [(2,AV.ptr 0 0 0),(3,AV.ptr 1 0 0),(5,iv v0)] [some (bK [AV.agg [Wt (boL q.cl),Wt (Wn iv q.bw),Wt (Wn iv q.pe)]] 3),some (bK [AV.agg [Wt (boL q.cl),Wt (Wn iv q.bw),Wt (Wn iv q.pe)]] 3)]
def PX(q:Aj):Option (FG⊕Ret):=br (iN (boL q.cl).length != iN (boL q.cl).length) (some (.inr ([],bV false))) (gu (q.bw.length<=9223372036854775807) <|gu (q.pe.length<=9223372036854775807) <|some (.inl (.l0 ((0:Int)))))
def G2(q:Aj)(v0:Int):Option (FG⊕Ret):=br (decide (v0<iN (boL q.cl).length)) (gu (0<=v0) <|el (q.cl) (v0.toNat) fun(x39:Bool)=>el (q.cl) (v0.toNat) fun(x44:Bool)=>br (!x39==x44) (some (.inr ([],bV false))) (some (.inl (.l0 (i64.wrap (v0+1)))))) (some (.inr ([],bV true)))
def sg3Step(q:Aj):FG->Option (FG⊕Ret) | .l0 v0=>G2 q v0
theorem sg3_ct(q:Aj)(r:Ret)(h:Ac (sg3Step q) (PX q) r):CT Wu 42 ([]) ([sgA q,sgA q]) r.1 r.2:=CT.mach (fn:=Tryz.f42) (c:=zB Tryz.f42) (S:=(sg3St q)) (hd:=FG.ctorIdx) Tryz.func42 (by kernel_rfl) (nL rfl) (fun s o ho=>match s,ho with | .l0 v0,ho=>Scr.ok (X:=G2 q v0) ho mix (.ra cR <|.br (fun a0=>.gu fun a1=>.el fun x39 a2=>.el fun x44 a3=>.rd [67] [(39,bV x39),(44,bV x44)] [] (bX a0 (aB a1 (Ae (f:=bV) a2) (ah (bH a1 (Ae (f:=bV) a3) aD)))) <|.br (fun a4=>.ta [93] (bO a4)) (fun a4=>.pa [92] [0,1] [2,3,5] (b4 a4 t6))) (fun a0=>.ta [66] (bO a0))) (by kernel_rfl)) (fun o ho=>Scr.ok (X:=PX q) ho mix (.ra cI <|.br (fun a0=>.ta [27] (cB (aa (ah (bD (cA a0 (bj a0 (bL aD)))))))) (fun a0=>.gu fun a1=>.gu fun a2=>have c0:=s19_c (q.bw) a1;have c1:=s19_c (q.pe) a2;.pb [26] [] [(18,hK c0 [] []),(26,hK c1 [] [])] [] [0,1] [2,3,5] (ar (aa (ah (bD (aI a0 (cJ a0 (bu (c0)) (u2 (cK (cK (ax (cm (c1)) t3 t3))))))))) bn t6))) (by kernel_rfl)) h
theorem Ov(s:Aj)(hl:s.cl.length<=1000000)(hp:s.pe.length<=1000000)(hb:∀b∈s.pe,0<=b/\b<(s.cl.length:Int)):CT Wu 108 [] [sgA s] [some (Blk.mk (boL (AC s)) 1 true true none)] (.sl 0 0 (AC s).length):=by
 refine ceK_ct s ([_],_) ?_;have hL:=A5 s.cl;unfold Mx;rw[Ab (La _),Ab (by omega),Ab (by omega)];refine Pm (L:=fun i b=>Fh.l0 (i:Int) b) (f:=fun c b=>c.set b.toNat true) (l:=s.pe) s.cl (fun i x hx h=>?_) ?_
 .have hlen:=Le (s.pe.take i) s.cl;have h2:=hb x (Vz hx);have hi:=(Vx.1 hx).1;generalize (s.pe.take i).foldl (fun c b=>c.set b.toNat true) s.cl=c at *;refine .to (show I2 s i c=_ from ?_) h;unfold I2;rw[AR hx,Ab h2.1,Ab (by simp only[iN];omega),Ab (show Nat.le _ _ from(by simp only[Vy];show 0+x.toNat+1<=_;omega)),zW i (by omega),VL]
 .refine .to (show I2 s s.pe.length (AC s)=_ from ?_) (.ret _);unfold I2;rw[AN,hL,D9];rfl
theorem hoK_c(l:List UsD)(hl:l.length<=1000000):CT Wu 116 [] [.lst (l.map usA)] [some (Blk.mk ((hoL l).map (AV.int .i64)) 1 true true none)] (.sl 0 0 (hoL l).length):=by
 refine hoK_ct l ([_],_) ?_;rw[RG];have key:∀(d i:Nat),i+d=l.length->Ac (SG l) (some (.inl (.l0 ((l.take i).map hoF) (i:Int)))) (([some (Blk.mk ((l.map hoF).map (AV.int .i64)) 1 true true none)],.sl 0 0 (l.map hoF).length):Ret):=by
  intro d;induction d with
  | zero=>
   intro i hi;obtain rfl:i=l.length:=by omega
   refine .to (show Je l _ (l.length:Nat)=_ from rfl) ?_;unfold Je;rw[AN,List.take_length];exact .ret _
  | succ d ih=>
   intro i hi;have hx:l[i]?=some l[i]:=Vv (by omega);have e:(l.take (i+1)).map hoF=(l.take i).map hoF++[hoF l[i]]:=by rw[List.take_add_one,hx,VJ];rfl
   have:=ih (i+1) (by omega);rw[e] at this;have hl2:(l.take i).length<=i:=by rw[VX];omega
   refine .to (show Je l _ (i:Nat)=_ from rfl) ?_;unfold Je;rw[AR hx,Bi i (by omega),VE];cases q:A7 l[i].s with
   | true=>rw[Ah rfl,Al hx,Ab (by simp only[Vy,V9];omega),Ab (by simp only[Vy,V9];omega)];rw[show hoF l[i]=l[i].hm by unfold hoF;rw[Vt q]] at this;exact this
   | false=>rw[Ad rfl,Ab (by simp only[Vy,V9];omega),Ab (by simp only[Vy,V9];omega)];rw[show hoF l[i] = -2 by unfold hoF;rw[Vu (by rw[q];simp)]] at this;exact this
 exact key l.length 0 (by omega)
theorem ts3_c(l:List TsD)(hl:l.length<=1000000):CT Wu 43 [] [.lst (l.map tsA),.lst (l.map tsA)] [] (.bool true):=by
 refine ts3_ct l ([],_) ?_;unfold PQ;rw[Ad (by simp)];refine Bb (fun i=>Ge.l0 (i:Int)) l.length (fun i hi h=>.to (show Ic l i=_ from ?_) h) (.to (show Ic l l.length=_ from ?_) (.ret _))
 .obtain⟨x,hx⟩:∃x,l[i]?=some x:=⟨_,Vv hi⟩;unfold Ic;rw[AR hx,VE,Al hx,Ad (by simp),zW i (by omega)]
 .unfold Ic;rw[AN]
theorem sg3_c(s:Aj)(h1:s.cl.length<=1000000)(h2:s.bw.length<=1000000)(h3:s.pe.length<=1000000):CT Wu 42 [] [sgA s,sgA s] [] (.bool true):=by
 refine sg3_ct s ([],_) ?_;have hL:=A5 s.cl;unfold PX;rw[Ad (by simp),Ab (by omega),Ab (by omega)];refine Bb (fun i=>FG.l0 (i:Int)) s.cl.length (fun i hi h=>.to (show G2 s i=_ from ?_) h) (.to (show G2 s s.cl.length=_ from ?_) (.ret _))
 .unfold G2;obtain⟨x,hx⟩:∃x,s.cl[i]?=some x:=⟨_,Vv hi⟩;rw[Ah (VB (by simp only[iN];omega))];rw[Ab (by omega),VE,Al hx,Al hx,Ad (by cases x<;>rfl),zW i (by omega)]
 .unfold G2;rw[Ad (VA (by simp only[iN];omega))]
inductive Fp where | l0 (v0:Bool) (v1:Au) (v2:Int)
def cOpSt(n:Aa)(sh:List Bool)(sp:Int):Fp->St | .l0 v0 v1 v2=>St.mk 62 [(1,Wt (boL sh)),(9,AV.ptr 0 0 0),(10,bV v0),(45,iv v1.k),(46,iv v2)] [some (bK [sA v1] 6)]
def M0(n:Aa)(sh:List Bool)(sp:Int):Option (Fp⊕Ret):=gu (RwV n) <|br (csE n sp != 0) (some (.inr ([],AV.tup [bV false,iV (csE n sp)]))) (gu (An n) <|br (iN (boL sh).length != iN (Am n)) (some (.inr ([],AV.tup [bV false,iV 19]))) (gu (0<=sp) <|el (n.ss) (sp.toNat) fun(x28:Au)=>gu (0<=x28.i) <|el (sh) (x28.i.toNat) fun(x33:Bool)=>br (!x33) (gu (0<=x28.o) <|el (sh) (x28.o.toNat) fun(x40:Bool)=>some (.inl (.l0 (!x40) x28 ((0:Int))))) (some (.inl (.l0 (false) x28 ((0:Int)))))))
def Gu(n:Aa)(sh:List Bool)(sp:Int)(v0:Bool)(v1:Au)(v2:Int):Option (Fp⊕Ret):=br (decide (v2<v1.k)) (br v0 (gu (0<=i64.wrap (v1.b+v2)) <|el (sh) ((i64.wrap (v1.b+v2)).toNat) fun(x56:Bool)=>some (.inl (.l0 (!x56) v1 (i64.wrap (v2+1))))) (some (.inl (.l0 (false) v1 (i64.wrap (v2+1)))))) (some (.inr ([],AV.tup [bV v0,iV 0])))
def Ry(n:Aa)(sh:List Bool)(sp:Int):Fp->Option (Fp⊕Ret) | .l0 v0 v1 v2=>Gu n sh sp v0 v1 v2
theorem cOp_ct(n:Aa)(sh:List Bool)(sp:Int)(r:Ret)(h:Ac (Ry n sh sp) (M0 n sh sp) r):CT Wu 76 ([]) ([Ai n,.lst (boL sh),.int .i64 sp]) r.1 r.2:=CT.mach (fn:=Tryz.f76) (c:=zB Tryz.f76) (S:=(cOpSt n sh sp)) (hd:=Fp.ctorIdx) Tryz.func76 (by kernel_rfl) (nL rfl) (fun s o ho=>match s,ho with | .l0 v0 v1 v2,ho=>Scr.ok (X:=Gu n sh sp v0 v1 v2) ho mix (.ra bG <|.br (fun a0=>.rb [95] (bx a0) <|.br (fun a1=>.gu fun a2=>.el fun x56 a3=>.pb [101] [(56,bV x56)] [] [] [0] [1,9,10,45,46] (cj (aa (aI a1 (bv a1 t3 (aj a1 (an a2 (Ae (f:=bV) a3))) (bt a1 s2)))) t7)) (fun a1=>.pa [100] [0] [1,9,10,45,46] (cj (aa (aZ a1 (aZ a1 (cc a1)))) t7))) (fun a0=>.ta [94] (aJ a0 bY t3))) (by kernel_rfl)) (fun o ho=>Scr.ok (X:=M0 n sh sp) ho mix (.ra (bz t3) <|.gu fun a0=>have c0:=T7 a0 (sp);.rv 1 [] [] [(14,hK c0 [] [])] (af (bN t9 (ay (c0)) s2) aE) <|.br (fun a1=>.ta [31] (aJ a1 (u2 bn) t3)) (fun a1=>.gu fun a2=>have c1:=OW a2;.rd [30] [] [(23,hK c1 [] [])] (bX a1 (ab (bc t9 (c1)) t3 s2)) <|.br (fun a3=>.ta [39] (aJ a3 t3 t3)) (fun a3=>.gu fun a4=>.el fun x28 a5=>.rd [38] [(28,sA x28)] [] (bX a3 (bH a4 (Ae (f:=sA) a5) aS)) <|.gu fun a6=>.el fun x33 a7=>.br (fun a8=>.gu fun a9=>.el fun x40 a10=>.pb [73] [(33,bV x33),(40,bV x40)] [] [] [1] [1,9,10,45,46] (aF (cH a6 (Ae (f:=bV) a7) (am (bt a8 (cn a8 a9 (Ae (f:=bV) a10) (ai a8 s2))))) bY t7)) (fun a8=>.pb [72] [(33,bV x33)] [] [] [1] [1,9,10,45,46] (aF (cH a6 (Ae (f:=bV) a7) (am (cA a8 (cc a8)))) bY t7))))) (by kernel_rfl)) h
def cOB(n:Aa)(sh:List Bool)(sp:Int):Bool:=A9 n&&decide (0<=sp)&&decide (sp<n.ss.length)&&decide (sh.length=Am n)&&opB n sh sp
def cOE(n:Aa)(sh:List Bool)(sp:Int):Int:=if csE n sp=0 then (if sh.length=Am n then 0 else 19) else csE n sp
def shB(sh:List Bool)(s:Au)(j:Nat):Bool:=sh.getD (s.b+(j:Int)).toNat false
theorem fnd_or{p:Nat->Bool}:∀(k i:Nat),(fnd p i (k+1)).isSome=((fnd p i k).isSome||p (i+k)):=by
 intro k;induction k with
 | zero=>intro i;simp only[fnd,Vk];cases p i<;>rfl
 | succ k ih=>
  intro i;have h:=ih (i+1);rw[show i+(k+1)=i+1+k by omega];show(fnd p i ((k+1)+1)).isSome=((fnd p i (k+1)).isSome||p (i+1+k));unfold fnd;cases p i with
  | true=>rfl
  | false=>exact h
def opJ(sh:List Bool)(s:Au)(j:Nat):Bool:= !(sh.getD s.i.toNat false)&&!(sh.getD s.o.toNat false)&&!(fnd (shB sh s) 0 j).isSome
theorem opJ_succ(sh:List Bool)(s:Au)(j:Nat):opJ sh s (j+1)=(opJ sh s j&&!shB sh s j):=by unfold opJ;rw[fnd_or,VL];cases sh.getD s.i.toNat false<;>cases sh.getD s.o.toNat false<;>cases (fnd (shB sh s) 0 j).isSome<;>cases shB sh s j<;>rfl
theorem opJ_end(sh:List Bool)(s:Au):opJ sh s s.k.toNat=JT sh s:=rfl
theorem OX{sh:List Bool}{c:Int}(h0:0<=c)(h1:c<sh.length):sh[c.toNat]?=some (sh.getD c.toNat false):=by
 have hl:c.toNat<sh.length:=by omega
 rw[Vw,Vv hl];rfl
theorem K6{n:Aa}(hrw:RwV n)(sh:List Bool)(sp:Int):CT Wu 76 [] [Ai n,.lst (boL sh),.int .i64 sp] [] (.tup [.bool (cOB n sh sp),.int .i64 (cOE n sh sp)]):=by
 refine cOp_ct n sh sp ([],_) ?_;unfold M0 cOB cOE;rw[Ab hrw];by_cases h:csE n sp=0
 .obtain⟨hv,h0,h1⟩:=csE_zero h;obtain⟨i,rfl⟩:∃i:Nat,sp=i:=⟨sp.toNat,by omega⟩;obtain⟨s,hs⟩:∃s,n.ss[i]?=some s:=⟨_,Vv (by omega)⟩;have e:=hv.ends hs;have sb:=hv.sb hs;rw[Ad (by simp[h]),Ab hv,Vt h,BF.2 hv,AA h0,AA h1];by_cases hl:sh.length=Am n
  .rw[Ad (by simp[iN,boL,hl]),Ab h0,VE,Al hs,Ab e.1,Al (OX e.1 (by omega)),AA hl,Vt hl];have ho:opB n sh (i:Int)=JT sh s:=by unfold opB;rw[VE,hs]
   rw[ho,<-opJ_end];simp only[Bool.true_and];have loop:Ac (Ry n sh (i:Int)) (some (.inl (.l0 (opJ sh s 0) s 0))) (([],.tup [.bool (opJ sh s s.k.toNat),.int .i64 0]):Ret):=by
    refine Bb (fun j=>Fp.l0 (opJ sh s j) s (j:Int)) s.k.toNat (fun j hj hr=>.to ?_ hr) (.to ?_ (.ret _))
    .show Gu n sh i _ s j=_;unfold Gu;rw[Ah (AA (by omega)),opJ_succ,A3 (s.b+(j:Int)) (by omega) (by omega),zW j (by omega)];cases opJ sh s j with
     | false=>rfl
     | true=>rw[Ah rfl,Ab (by omega),Al (OX (by omega) (by omega))];rfl
    .show Gu n sh i _ s _=_;unfold Gu;rw[Ad (AB (by omega))]
   have z:opJ sh s 0=(!(sh.getD s.i.toNat false)&&!(sh.getD s.o.toNat false)):=by unfold opJ;simp[fnd]
   rw[z] at loop;cases h3:sh.getD s.i.toNat false with
   | true=>rw[h3] at loop;exact loop
   | false=>rw[h3] at loop;rw[Ah (by rfl),Ab (by omega),Al (OX e.2.2.1 (by omega))];exact loop
  .rw[Ah (by simp[iN,boL];omega),AB hl,Vu hl];simp;exact .ret _
 .rw[Ah (by simpa using h),Vu h];have:(A9 n&&decide (0<=sp)&&decide (sp<n.ss.length))=false:=by
   cases hv:A9 n with
   | false=>rfl
   | true=>
    unfold csE at h;rw[Vt hv] at h;by_cases a:0<=sp
    .by_cases b:sp<n.ss.length
     .rw[Vu (by omega)] at h;exact absurd rfl h
     .simp[b]
    .simp[a]
  rw[this];exact .ret _
theorem QX{n:Aa}(hv:An n){sh:List Bool}(hl:sh.length=Am n){sp:Int}(h:0<=sp/\sp<n.ss.length):cOB n sh sp=opB n sh sp:=by unfold cOB;rw[BF.2 hv,AA h.1,AA h.2,AA hl];rfl
def Np(n:Aa)(sh:List Bool)(fl:Int):Option (Empty⊕Ret):=gu (RwV n) <|br (CC n != 0) (some (.inr ([],iV (CC n)))) (br (iN (boL sh).length != Bl n) (some (.inr ([],iV 19))) (br (decide (fl<0)) (some (.inr ([],iV 19))) (br (decide (8<fl)) (some (.inr ([],iV 19))) (some (.inr ([],iV 0))))))
theorem chc_ct(n:Aa)(sh:List Bool)(fl:Int)(r:Ret)(h:Ac emT (Np n sh fl) r):CT Wu 46 ([]) ([Ai n,.lst (boL sh),.int .i64 fl]) r.1 r.2:=CT.mach (fn:=Tryz.f46) (c:=zB Tryz.f46) (S:=emS) (hd:=emH) Tryz.func46 (by kernel_rfl) (nL rfl) (fun s o ho=>match s,ho with | x,_=>x.elim) (fun o ho=>Scr.ok (X:=Np n sh fl) ho mix (.ra bR <|.gu fun a0=>have c0:=L1 a0;.rv 1 [] [] [(11,hK c0 [] [])] (af (cQ t9 (c0) ba) aE) <|.br (fun a1=>.ta [29] (az (bx a1))) (fun a1=>.br (fun a2=>.ta [28,47] (az (ab a1 (am (bD (cx a2 (an t3 s2)))) bn))) (fun a2=>.br (fun a3=>.ta [28,46,55] (az (ab a1 (am (bD (bt a2 (u2 (aC a3 (cc a3)))))) bn))) (fun a3=>.rb [28,46,54] (bX a1 (bD (bt a2 (u2 (bt a3 s2))))) <|.br (fun a4=>.ta [46,54,37] (bO a4)) (fun a4=>.ta [46,54,36] (bO a4)))))) (by kernel_rfl)) h
def Qm(sh:List Bool)(c:Int):Option (Empty⊕Ret):=gu (∀(e:AV),e∈boL sh->e.cells.length=1) <|gu ((boL sh).length<=9223372036854775807) <|gu ((boL sh).length * 1<=140737488355328) <|gu (0<=c) <|gu (c<iN (boL sh).length) <|gu ((0+c.toNat).succ.le (boL sh).length) <|some (.inr ([],Wt ((boL sh).set (0+c.toNat) (bV true))))
theorem wth_ct(sh:List Bool)(c:Int)(r:Ret)(h:Ac emT (Qm sh c) r):CT Wu 147 ([]) ([.lst (boL sh),.int .i64 c]) r.1 r.2:=CT.mach (fn:=Tryz.f147) (c:=zB Tryz.f147) (S:=emS) (hd:=emH) Tryz.func147 (by kernel_rfl) (nL rfl) (fun s o ho=>match s,ho with | x,_=>x.elim) (fun o ho=>Scr.ok (X:=Qm sh c) ho mix (.ra s2 <|.gu fun a0=>.gu fun a1=>.gu fun a2=>.ra (al (aG (cL a0 a1 a2) s2)) <|.gu fun a3=>.gu fun a4=>.gu fun a5=>.tc [] [] [0] (aJ (cD (an a3 a4) (ak a5)) aw (show(boL sh).length=((boL sh).set (0+c.toNat) (bV true)).length by simp))) (by kernel_rfl)) h
def muA(n:Nat->Bool)(b:Nat->Bool)(k:Int):E0:=.l1 k (n 0) (n 1) (n 2) (n 3) (n 4) (n 5) (n 6) (n 7) (n 8) (n 9) (n 10) (n 11) (n 12) (n 13) (n 14) (n 15) (n 16) (n 17) (n 18) (n 19) (n 20) (n 21) (n 22) (n 23) (b 0) (b 1) (b 2) (b 3) (b 4) (b 5) (b 6) (b 7) (b 8) (b 9) (b 10) (b 11) (b 12) (b 13) (b 14) (b 15) (b 16) (b 17) (b 18) (b 19) (b 20) (b 21) (b 22) (b 23)
theorem mut_c{g:List (List Int)}{s:List Bool}(hrw:VG g):CT Wu 48 [] [.lst (gL g),.lst (boL s)] [] (.tup [.bool (muB g s),.int .i64 (CV g s)]):=by
 refine mut_ct g s ([],_) ?_;unfold Oo;rw[Ab hrw,KB];have hlg:=B4 g;have hlb:=A5 s;cases hv:Cn g with
 | false=>
  have:rvE g=20:=by unfold rvE;rw[hv];rfl
  rw[this,Vu (by simp),EM (fun h=>by have:=h.1;rw[KB,hv] at this;cases this)];exact .ret _
 | true=>
  have hE:rvE g=0:=by unfold rvE;rw[Vt hv]
  have hO:rvO g=Ao g:=by unfold rvO;rw[Vt hv]
  rw[hE,Ad (by rfl),Vt rfl];by_cases hl:s.length≠g.length
  .rw[Ah (Wi.2 (by rw[hlb,hlg];simp only[iN];omega)),Vt hl,EM (fun h=>by have:=h.1;rw[KB,Vt hv,Vt hl] at this;cases this)];exact .ret _
  rw[Ad (by rw[hlb,hlg];simp only[Decidable.not_not] at hl;rw[hl];simp),Vu hl];have hl:s.length=g.length:=by omega
  have hc:CV g s=0:=by rw[KB,Vt hv,Vu (by omega)]
  have hg:=Qt hrw hv;have hg2:=revG_gok hrw hv;have hrl:(Ao g).length=g.length:=J1 g _;have h24:=hg.len;have key:∀(j k:Nat),k+j=g.length->(∀v,v<k->s.getD v true=true)->Ac (ML g s) (some (.inl (.l0 (k:Int)))) (([],.tup [.bool (muB g s),.int .i64 0]):Ret):=by
   intro j;induction j with
   | zero=>
    intro k hk hall;refine .to (show ET g s k=some (.inr ([],.tup [.bool false,.int .i64 0])) from ?_) ?_
    .unfold ET;rw[Ad (AB (by rw[hlb];simp only[iN];omega))]
    .rw[EM fun⟨_,⟨v,hv⟩,_⟩=>by rw[hall v (by have:=Hb hv;omega)] at hv;cases hv];exact .ret _
   | succ j ih=>
    intro k hk hall;have hkl:k<s.length:=by omega
    have hsk:=Ay true hkl;have wk:=zW k (by omega);cases hso:s.getD k true with
    | true=>
     refine .to (show ET g s k=some (.inl (.l0 ((k+1:Nat):Int))) from ?_) (ih (k+1) (by omega) fun v hv=>?_)
     .unfold ET;rw[Ah (AA (by rw[hlb];simp only[iN];omega)),Ab (by omega),VE,Al hsk,hso,Ah rfl,wk]
     .rcases Wm v k with h | h
      .exact hall v h
      .have:v=k:=by omega
       subst this;exact hso
    | false=>
     refine .to (show ET g s k=some (.inl (muA (mkB g s k) (mkB (Ao g) s k) 0)) from ?_) ?_
     .unfold ET;rw[Ah (AA (by rw[hlb];simp only[iN];omega)),Ab (by omega),VE,Al hsk,hso,Ad rfl,Ab hg,Ab hl,Ab ⟨by omega,by simp only[iN];omega⟩,hO,Ab hg2,Ab (by omega),Ab ⟨by omega,by simp only[iN];omega⟩];rfl
     have inner:∀(i q:Nat),q+i=g.length->(∀w,w<q->s.getD w true=false->Rcv g s k w/\Rcv g s w k)->Ac (ML g s) (some (.inl (muA (mkB g s k) (mkB (Ao g) s k) (q:Int)))) (([],.tup [.bool (muB g s),.int .i64 0]):Ret):=by
      intro i;induction i with
      | zero=>
       intro q hq hok;refine .to (show CX g s q (mkB g s k 0) (mkB g s k 1) (mkB g s k 2) (mkB g s k 3) (mkB g s k 4) (mkB g s k 5) (mkB g s k 6) (mkB g s k 7) (mkB g s k 8) (mkB g s k 9) (mkB g s k 10) (mkB g s k 11) (mkB g s k 12) (mkB g s k 13) (mkB g s k 14) (mkB g s k 15) (mkB g s k 16) (mkB g s k 17) (mkB g s k 18) (mkB g s k 19) (mkB g s k 20) (mkB g s k 21) (mkB g s k 22) (mkB g s k 23) (mkB (Ao g) s k 0) (mkB (Ao g) s k 1) (mkB (Ao g) s k 2) (mkB (Ao g) s k 3) (mkB (Ao g) s k 4) (mkB (Ao g) s k 5) (mkB (Ao g) s k 6) (mkB (Ao g) s k 7) (mkB (Ao g) s k 8) (mkB (Ao g) s k 9) (mkB (Ao g) s k 10) (mkB (Ao g) s k 11) (mkB (Ao g) s k 12) (mkB (Ao g) s k 13) (mkB (Ao g) s k 14) (mkB (Ao g) s k 15) (mkB (Ao g) s k 16) (mkB (Ao g) s k 17) (mkB (Ao g) s k 18) (mkB (Ao g) s k 19) (mkB (Ao g) s k 20) (mkB (Ao g) s k 21) (mkB (Ao g) s k 22) (mkB (Ao g) s k 23)=some (.inr ([],.tup [.bool true,.int .i64 0])) from ?_) ?_
       .unfold CX;rw[Ad (AB (by rw[hlb];simp only[iN];omega))]
       .rw[muB_t ⟨hc,⟨k,hso⟩,fun v w hv hw=>(hok v (by have:=Hb hv;omega) hv).2.trans (hok w (by have:=Hb hw;omega) hw).1⟩];exact .ret _
      | succ i ihi=>
       intro q hq hok;have hql:q<s.length:=by omega
       have hsq:=Ay true hql;have wq:=zW q (by omega);have ga:=NI (mkB g s k) (k:=q) (by omega);have gb:=NI (mkB (Ao g) s k) (k:=q) (by omega);have nxt:(s.getD q true=false->Rcv g s k q/\Rcv g s q k)->∀w,w<q+1->s.getD w true=false->Rcv g s k w/\Rcv g s w k:=fun h w hw ho=>by
        rcases Wm w q with h1 | h1
        .exact hok w h1 ho
        .have:w=q:=by omega
         subst this;exact h ho
       cases hsqo:s.getD q true with
       | true=>refine .to (show CX g s q (mkB g s k 0) (mkB g s k 1) (mkB g s k 2) (mkB g s k 3) (mkB g s k 4) (mkB g s k 5) (mkB g s k 6) (mkB g s k 7) (mkB g s k 8) (mkB g s k 9) (mkB g s k 10) (mkB g s k 11) (mkB g s k 12) (mkB g s k 13) (mkB g s k 14) (mkB g s k 15) (mkB g s k 16) (mkB g s k 17) (mkB g s k 18) (mkB g s k 19) (mkB g s k 20) (mkB g s k 21) (mkB g s k 22) (mkB g s k 23) (mkB (Ao g) s k 0) (mkB (Ao g) s k 1) (mkB (Ao g) s k 2) (mkB (Ao g) s k 3) (mkB (Ao g) s k 4) (mkB (Ao g) s k 5) (mkB (Ao g) s k 6) (mkB (Ao g) s k 7) (mkB (Ao g) s k 8) (mkB (Ao g) s k 9) (mkB (Ao g) s k 10) (mkB (Ao g) s k 11) (mkB (Ao g) s k 12) (mkB (Ao g) s k 13) (mkB (Ao g) s k 14) (mkB (Ao g) s k 15) (mkB (Ao g) s k 16) (mkB (Ao g) s k 17) (mkB (Ao g) s k 18) (mkB (Ao g) s k 19) (mkB (Ao g) s k 20) (mkB (Ao g) s k 21) (mkB (Ao g) s k 22) (mkB (Ao g) s k 23)=some (.inl (muA (mkB g s k) (mkB (Ao g) s k) ((q+1:Nat):Int))) from ?_) (ihi (q+1) (by omega) (nxt fun h=>by rw[hsqo] at h;cases h));unfold CX;rw[Ah (AA (by rw[hlb];simp only[iN];omega)),Ab (by omega),VE,Al hsq,hsqo,Ad (by rfl),wq];rfl
       | false=>
        cases hm:mkB g s k q with
        | false=>
         refine .to (show CX g s q (mkB g s k 0) (mkB g s k 1) (mkB g s k 2) (mkB g s k 3) (mkB g s k 4) (mkB g s k 5) (mkB g s k 6) (mkB g s k 7) (mkB g s k 8) (mkB g s k 9) (mkB g s k 10) (mkB g s k 11) (mkB g s k 12) (mkB g s k 13) (mkB g s k 14) (mkB g s k 15) (mkB g s k 16) (mkB g s k 17) (mkB g s k 18) (mkB g s k 19) (mkB g s k 20) (mkB g s k 21) (mkB g s k 22) (mkB g s k 23) (mkB (Ao g) s k 0) (mkB (Ao g) s k 1) (mkB (Ao g) s k 2) (mkB (Ao g) s k 3) (mkB (Ao g) s k 4) (mkB (Ao g) s k 5) (mkB (Ao g) s k 6) (mkB (Ao g) s k 7) (mkB (Ao g) s k 8) (mkB (Ao g) s k 9) (mkB (Ao g) s k 10) (mkB (Ao g) s k 11) (mkB (Ao g) s k 12) (mkB (Ao g) s k 13) (mkB (Ao g) s k 14) (mkB (Ao g) s k 15) (mkB (Ao g) s k 16) (mkB (Ao g) s k 17) (mkB (Ao g) s k 18) (mkB (Ao g) s k 19) (mkB (Ao g) s k 20) (mkB (Ao g) s k 21) (mkB (Ao g) s k 22) (mkB (Ao g) s k 23)=some (.inr ([],.tup [.bool false,.int .i64 0])) from ?_) ?_
         .unfold CX;rw[Ah (AA (by rw[hlb];simp only[iN];omega)),Ab (by omega),VE,Al hsq,hsqo,Ah (by rfl),Ab (by omega),Al ga,hm,Ah (by rfl)]
         .rw[EM fun h=>by
           have:=ES.2 (h.2.2 k q hso hsqo);rw[hm] at this;cases this]
          exact .ret _
        | true=>
         cases hm2:mkB (Ao g) s k q with
         | false=>
          refine .to (show CX g s q (mkB g s k 0) (mkB g s k 1) (mkB g s k 2) (mkB g s k 3) (mkB g s k 4) (mkB g s k 5) (mkB g s k 6) (mkB g s k 7) (mkB g s k 8) (mkB g s k 9) (mkB g s k 10) (mkB g s k 11) (mkB g s k 12) (mkB g s k 13) (mkB g s k 14) (mkB g s k 15) (mkB g s k 16) (mkB g s k 17) (mkB g s k 18) (mkB g s k 19) (mkB g s k 20) (mkB g s k 21) (mkB g s k 22) (mkB g s k 23) (mkB (Ao g) s k 0) (mkB (Ao g) s k 1) (mkB (Ao g) s k 2) (mkB (Ao g) s k 3) (mkB (Ao g) s k 4) (mkB (Ao g) s k 5) (mkB (Ao g) s k 6) (mkB (Ao g) s k 7) (mkB (Ao g) s k 8) (mkB (Ao g) s k 9) (mkB (Ao g) s k 10) (mkB (Ao g) s k 11) (mkB (Ao g) s k 12) (mkB (Ao g) s k 13) (mkB (Ao g) s k 14) (mkB (Ao g) s k 15) (mkB (Ao g) s k 16) (mkB (Ao g) s k 17) (mkB (Ao g) s k 18) (mkB (Ao g) s k 19) (mkB (Ao g) s k 20) (mkB (Ao g) s k 21) (mkB (Ao g) s k 22) (mkB (Ao g) s k 23)=some (.inr ([],.tup [.bool false,.int .i64 0])) from ?_) ?_
          .unfold CX;rw[Ah (AA (by rw[hlb];simp only[iN];omega)),Ab (by omega),VE,Al hsq,hsqo,Ah (by rfl),Ab (by omega),Al ga,hm,Ad (by rfl),Al gb,hm2,Ah (by rfl)]
          .rw[EM fun h=>by
            have:=ES.2 (rcv_vre hg (h.2.2 q k hsqo hso));rw[hm2] at this;cases this]
           exact .ret _
         | true=>refine .to (show CX g s q (mkB g s k 0) (mkB g s k 1) (mkB g s k 2) (mkB g s k 3) (mkB g s k 4) (mkB g s k 5) (mkB g s k 6) (mkB g s k 7) (mkB g s k 8) (mkB g s k 9) (mkB g s k 10) (mkB g s k 11) (mkB g s k 12) (mkB g s k 13) (mkB g s k 14) (mkB g s k 15) (mkB g s k 16) (mkB g s k 17) (mkB g s k 18) (mkB g s k 19) (mkB g s k 20) (mkB g s k 21) (mkB g s k 22) (mkB g s k 23) (mkB (Ao g) s k 0) (mkB (Ao g) s k 1) (mkB (Ao g) s k 2) (mkB (Ao g) s k 3) (mkB (Ao g) s k 4) (mkB (Ao g) s k 5) (mkB (Ao g) s k 6) (mkB (Ao g) s k 7) (mkB (Ao g) s k 8) (mkB (Ao g) s k 9) (mkB (Ao g) s k 10) (mkB (Ao g) s k 11) (mkB (Ao g) s k 12) (mkB (Ao g) s k 13) (mkB (Ao g) s k 14) (mkB (Ao g) s k 15) (mkB (Ao g) s k 16) (mkB (Ao g) s k 17) (mkB (Ao g) s k 18) (mkB (Ao g) s k 19) (mkB (Ao g) s k 20) (mkB (Ao g) s k 21) (mkB (Ao g) s k 22) (mkB (Ao g) s k 23)=some (.inl (muA (mkB g s k) (mkB (Ao g) s k) ((q+1:Nat):Int))) from ?_) (ihi (q+1) (by omega) (nxt fun _=>⟨ES.1 hm,rcv_rev hg (ES.1 hm2)⟩));unfold CX;rw[Ah (AA (by rw[hlb];simp only[iN];omega)),Ab (by omega),VE,Al hsq,hsqo,Ah (by rfl),Ab (by omega),Al ga,hm,Ad (by rfl),Al gb,hm2,Ad (by rfl),wq];rfl
     exact inner g.length 0 (by omega) fun w hw=>absurd hw (Wl _)
  exact key g.length 0 (by omega) fun v h=>absurd h (Wl _)
def chE(n:Aa)(sh:List Bool)(fl:Int):Int:=if A9 n=true then (if sh.length=Am n/\0<=fl/\fl<=8 then 0 else 19) else 20
theorem MD{n:Aa}{sh:List Bool}{fl:Int}(h:chE n sh fl=0):An n/\sh.length=Am n/\0<=fl/\fl<=8:=by
 unfold chE at h;split at h
 .rename_i hv;split at h
  .rename_i hx;exact⟨BF.1 hv,hx⟩
  .cases h
 .cases h
theorem Ob{n:Aa}{sh:List Bool}{fl:Int}(hv:An n)(hl:sh.length=Am n)(h:0<=fl/\fl<=8):chE n sh fl=0:=by unfold chE;rw[Vt (BF.2 hv),Vt ⟨hl,h⟩]
theorem Pp{n:Aa}(sh:List Bool)(fl:Int)(hrw:RwV n):CT Wu 46 [] [Ai n,.lst (boL sh),.int .i64 fl] [] (.int .i64 (chE n sh fl)):=by
 refine chc_ct n sh fl ([],_) (.val ?_);unfold Np chE CC Bl;rw[Ab hrw];cases hv:A9 n with
 | false=>rfl
 | true=>
  rw[Vt rfl,Vt rfl,Vt rfl,Ad (by rfl),A5];by_cases h1:sh.length=Am n
  .rw[Ad (by simp[iN,h1])];by_cases h2:fl<0
   .rw[Ah (AA h2),Vu (by omega)]
   .by_cases h3:8<fl
    .rw[Ad (AB h2),Ah (AA h3),Vu (by omega)]
    .rw[Ad (AB h2),Ad (AB h3),Vt ⟨h1,by omega,by omega⟩]
  .rw[Ah (Wi.2 (by simp only[iN];omega)),Vu (by omega)]
def wth(sh:List Bool)(c:Int):List Bool:=sh.set c.toNat true
theorem SM(sh:List Bool)(c:Int):(wth sh c).length=sh.length:=by unfold wth;simp
theorem wth_c{sh:List Bool}{c:Int}(hl:sh.length<=100000)(hc:0<=c/\c<(sh.length:Int)):CT Wu 147 [] [.lst (boL sh),.int .i64 c] [] (.lst (boL (wth sh c))):=by refine wth_ct sh c ([],_) (.val ?_);have hL:=A5 sh;unfold Qm;rw[Ab (fun e he=>by unfold boL at he;obtain⟨b,_,rfl⟩:=V0.1 he;rfl),Ab (by omega),Ab (by omega),Ab hc.1,Ab (by rw[hL];simp only[iN];omega),Ab (show Nat.le _ _ from(show 0+c.toNat+1<=(boL sh).length by omega))];unfold wth boL;rw[Wj,VL]
inductive EV where | l0 (v0 v1:Int)
def sloSt(n:Aa)(sh:List Bool):EV->St | .l0 v0 v1=>St.mk 44 [(1,Wt (boL sh)),(2,AV.ptr 0 0 0),(7,iv v0),(19,Wt (Wn sA n.ss)),(20,iv (iN (Wn sA n.ss).length)),(21,iv v1)] [some (bK [Ai n] 8)]
def MA(n:Aa)(sh:List Bool):Option (EV⊕Ret):=gu (RwV n) <|br (chE n sh 0 != 0) (some (.inr ([],AV.tup [iV 0,iV (chE n sh 0)]))) (some (.inl (.l0 ((0:Int)) ((0:Int)))))
def IB(n:Aa)(sh:List Bool)(v0 v1:Int):Option (EV⊕Ret):=br (decide (v1<iN (Wn sA n.ss).length)) (gu (0<=v1) <|el (n.ss) (v1.toNat) fun(x24:Au)=>gu (RwV n) <|br (cOB n sh v1) (br (x24.dep) (some (.inl (.l0 (i64.wrap (v0+x24.k)) (i64.wrap (v1+1))))) (some (.inl (.l0 v0 (i64.wrap (v1+1)))))) (some (.inl (.l0 v0 (i64.wrap (v1+1)))))) (some (.inr ([],AV.tup [iV v0,iV 0])))
def sloStep(n:Aa)(sh:List Bool):EV->Option (EV⊕Ret) | .l0 v0 v1=>IB n sh v0 v1
theorem slo_ct(n:Aa)(sh:List Bool)(r:Ret)(h:Ac (sloStep n sh) (MA n sh) r):CT Wu 47 ([]) ([Ai n,.lst (boL sh)]) r.1 r.2:=CT.mach (fn:=Tryz.f47) (c:=zB Tryz.f47) (S:=(sloSt n sh)) (hd:=EV.ctorIdx) Tryz.func47 (by kernel_rfl) (nL rfl) (fun s o ho=>match s,ho with | .l0 v0 v1,ho=>Scr.ok (X:=IB n sh v0 v1) ho mix (.ra bG <|.br (fun a0=>.gu fun a1=>.el fun x24 a2=>.rd [45] [(24,sA x24)] [] (af a0 (u2 (bH a1 (Ae (f:=sA) a2) (ak cu)))) <|.gu fun a3=>have c0:=K6 a3 (sh) (v1);.rc [(30,hK c0 [] [])] (aL (aj (bB t9 (aM (c0))) ba)) <|.br (fun a4=>.rb [69] (aR (ai a4 (bE a4))) <|.br (fun a5=>.pa [69,75] [0] [1,2,7,19,20,21] (bm a5 (bb t3 s2) aw t8)) (fun a5=>.pa [69,74] [0] [1,2,7,19,20,21] (cj a5 t8))) (fun a4=>.pa [68] [0] [1,2,7,19,20,21] (bI (aa (bW a4)) aw t8))) (fun a0=>.ta [44] (aJ a0 bY t3))) (by kernel_rfl)) (fun o ho=>Scr.ok (X:=MA n sh) ho mix (.ra (bz t3) <|.gu fun a0=>have c0:=Pp (sh) (0) a0;.rv 1 [] [] [(14,hK c0 [] [])] (bx (bN t9 (aM (c0)) s2)) <|.br (fun a1=>.ta [33] (aJ a1 (u2 bn) t3)) (fun a1=>.pa [32] [0] [1,2,7,19,20,21] (ar a1 (u2 (aL t2)) t8))) (by kernel_rfl)) h
def NZ(n:Aa)(sh:List Bool)(fl:Int):Option (Empty⊕Ret):=gu (∀(e:AV),e∈boL sh->e.cells.length=1) <|gu (iN (Wn bA n.bs).length<=iN (boL sh).length) <|gu (VG n.nx) <|br (muB n.nx (Wq ((Wn bA n.bs).length-Ws 0) (Wp (Ws 0) sh))) (gu (An n) <|gu (sh.length=Am n) <|some (.inr ([],bV (decide (fl<=slS n sh))))) (some (.inr ([],bV false)))
theorem rca_ct(n:Aa)(sh:List Bool)(fl:Int)(r:Ret)(h:Ac emT (NZ n sh fl) r):CT Wu 114 ([]) ([Ai n,.lst (boL sh),.int .i64 fl]) r.1 r.2:=CT.mach (fn:=Tryz.f114) (c:=zB Tryz.f114) (S:=emS) (hd:=emH) Tryz.func114 (by kernel_rfl) (nL rfl) (fun s o ho=>match s,ho with | x,_=>x.elim) (fun o ho=>Scr.ok (X:=NZ n sh fl) ho mix (.ra bR <|.gu fun a0=>.gu fun a1=>.gu fun a2=>have c0:=rmu_c a2;.rc [(17,hK c0 [] [])] (aR (ah (ab (k2 (ab a0 (Int.le_refl 0) (ab (show 0<=iN (Wn bA n.bs).length from(Int.natCast_nonneg _)) a1 (show iN (boL sh).length<=iN (boL sh).length by omega)))) (bu (show CT Wu 148 [] [Wt (gL n.nx),Wt (Wq ((Wn bA n.bs).length-Ws 0) (Wp (Ws 0) (boL sh)))] [] (AV.tup [bV (muB n.nx (Wq ((Wn bA n.bs).length-Ws 0) (Wp (Ws 0) sh))),iv (CV n.nx (Wq ((Wn bA n.bs).length-Ws 0) (Wp (Ws 0) sh)))]) from CT.eqs (c0) (by first | (simp only[boL,VJ,Wj,List.map_take,List.map_drop,List.map_replicate,List.nil_append]<;>rfl) | (simp[gL,boL,lI,sA,bA]<;>rfl)) (by first | (simp only[boL,VJ,Wj,List.map_take,List.map_drop,List.map_replicate,List.nil_append]<;>rfl) | (simp[gL,boL,lI,sA,bA]<;>rfl)))) ba))) <|.br (fun a3=>.gu fun a4=>.gu fun a5=>have c1:=rsl_c a4 a5;.tb [43] [] [(24,hK c1 [] [])] [] [] (az (aR (ai a3 (cn a3 t9 (ay (c1)) (aW a3 t3 s2)))))) (fun a3=>.ta [42] (az (aR (aj a3 (aZ a3 (cc a3))))))) (by kernel_rfl)) h
def slZ(n:Aa)(sh:List Bool):Int:=if chE n sh 0=0 then slS n sh else 0
theorem slo_c{n:Aa}(sh:List Bool)(hrw:RwV n):CT Wu 47 [] [Ai n,.lst (boL sh)] [] (.tup [.int .i64 (slZ n sh),.int .i64 (chE n sh 0)]):=by
 refine slo_ct n sh ([],_) ?_;have hn:(Wn sA n.ss).length=n.ss.length:=Vy _;unfold MA slZ;rw[Ab hrw];by_cases h:chE n sh 0=0
 case neg=>rw[Ah (Wi.2 h),Vu h];exact .ret _
 obtain⟨hv,hl,_⟩:=MD h;have hss:n.ss.length<=100000:=by have:=hv.ns;omega
 rw[Ad (by rw[h];rfl),Vt h,h];refine Bb (fun j=>EV.l0 (slI n sh j) (j:Int)) n.ss.length (fun j hj hr=>.to ?_ hr) (.to ?_ (.ret _))
 .show IB n sh (slI n sh j) j=_;have hs:=Ay s0 hj;have hb:=SZ hv sh j (by omega);have ht:=Pa hv sh hj;unfold IB;rw[Ah (AA (by rw[hn];simp only[iN];omega)),Ab (by omega),VE,Al hs,zW j (by omega),Ab hrw,QX hv hl ⟨by omega,by omega⟩];show _=some (Sum.inl (EV.l0 (slI n sh j+slT n sh j) ((j+1:Nat):Int)));unfold slT at ht ⊢
  cases ho:opB n sh (j:Int) with
  | false=>rw[Ad rfl,Vu (fun h=>by cases h.2),Int.add_zero]
  | true=>
   rw[Ah rfl];cases hd:(n.ss.getD j s0).dep with
   | false=>rw[Ad rfl,Vu (fun h=>by cases h.1),Int.add_zero]
   | true=>rw[hd,ho,Vt ⟨rfl,rfl⟩] at ht;rw[Ah rfl,Vt ⟨rfl,rfl⟩,Dt (by omega) (by omega)]
 .show IB n sh (slI n sh n.ss.length) n.ss.length=_;unfold IB;rw[Ad (AB (by rw[hn];simp only[iN];omega))];rfl
def caB(n:Aa)(sh:List Bool)(fl:Int):Bool:=muB n.nx (sh.take n.bs.length)&&decide (fl<=slS n sh)
theorem tk_eq(n:Aa)(sh:List Bool):Wq ((Wn bA n.bs).length-Ws 0) (Wp (Ws 0) sh)=sh.take n.bs.length:=by rw[Vy];rfl
theorem LV{n:Aa}(hv:An n){sh:List Bool}(hl:sh.length=Am n):n.bs.length<=sh.length:=by rw[hl];exact hv.cel.2.1
theorem QC(sh:List Bool):∀(e:AV),e∈boL sh->e.cells.length=1:=fun e he=>by unfold boL at he;obtain⟨b,_,rfl⟩:=V0.1 he;rfl
theorem KM{n:Aa}{sh:List Bool}(fl:Int)(hv:An n)(hl:sh.length=Am n)(hrw:RwV n):CT Wu 114 [] [Ai n,.lst (boL sh),.int .i64 fl] [] (.bool (caB n sh fl)):=by
 refine rca_ct n sh fl ([],_) (.val ?_);have hb:=LV hv hl;unfold NZ caB;rw[Ab (QC sh),Ab (by rw[A5,Vy];simp only[iN];omega),Ab hrw.1.vg,tk_eq];cases muB n.nx (sh.take n.bs.length) with
 | false=>rfl
 | true=>rw[Ah rfl,Ab hv,Ab hl];rfl
def Nw(n:Aa)(sh:List Bool)(fl:Int):Option (Empty⊕Ret):=gu (RwV n) <|br (chE n sh fl != 0) (some (.inr ([],AV.tup [bV false,iV (chE n sh fl)]))) (gu (∀(e:AV),e∈boL sh->e.cells.length=1) <|gu (iN (Wn bA n.bs).length<=iN (boL sh).length) <|gu (VG n.nx) <|br (muB n.nx (Wq ((Wn bA n.bs).length-Ws 0) (Wp (Ws 0) sh))) (some (.inr ([],AV.tup [bV (decide (fl<=slZ n sh)),iV 0]))) (some (.inr ([],AV.tup [bV false,iV 0]))))
theorem car_ct(n:Aa)(sh:List Bool)(fl:Int)(r:Ret)(h:Ac emT (Nw n sh fl) r):CT Wu 15 ([]) ([Ai n,.lst (boL sh),.int .i64 fl]) r.1 r.2:=CT.mach (fn:=Tryz.f15) (c:=zB Tryz.f15) (S:=emS) (hd:=emH) Tryz.func15 (by kernel_rfl) (nL rfl) (fun s o ho=>match s,ho with | x,_=>x.elim) (fun o ho=>Scr.ok (X:=Nw n sh fl) ho mix (.ra (bz t3) <|.gu fun a0=>have c0:=Pp (sh) (fl) a0;.rv 1 [] [] [(16,hK c0 [] [])] (bx (bb (bB t9 (aM (c0))) s2)) <|.br (fun a1=>.ta [37] (aJ a1 (u2 bn) t3)) (fun a1=>have c1:=slo_c (sh) a0;.rd [36] [] [(23,hK c1 [] [])] (af a1 (bN t9 (ay (c1)) ba)) <|.gu fun a2=>.gu fun a3=>.gu fun a4=>have c2:=mut_c a4;.rc [(34,hK c2 [] [])] (aR (ah (ab (k2 (ab a2 (Int.le_refl 0) (ab (show 0<=iN (Wn bA n.bs).length from(Int.natCast_nonneg _)) a3 (show iN (boL sh).length<=iN (boL sh).length by omega)))) (bu (show CT Wu 48 [] [Wt (gL n.nx),Wt (Wq ((Wn bA n.bs).length-Ws 0) (Wp (Ws 0) (boL sh)))] [] (AV.tup [bV (muB n.nx (Wq ((Wn bA n.bs).length-Ws 0) (Wp (Ws 0) sh))),iv (CV n.nx (Wq ((Wn bA n.bs).length-Ws 0) (Wp (Ws 0) sh)))]) from CT.eqs (c2) (by first | (simp only[boL,VJ,Wj,List.map_take,List.map_drop,List.map_replicate,List.nil_append]<;>rfl) | (simp[gL,boL,lI,sA,bA]<;>rfl)) (by first | (simp only[boL,VJ,Wj,List.map_take,List.map_drop,List.map_replicate,List.nil_append]<;>rfl) | (simp[gL,boL,lI,sA,bA]<;>rfl)))) ba))) <|.br (fun a5=>.ta [77] (cw (aR (ai a5 (aW a5 t3 (u2 t2)))))) (fun a5=>.ta [76] (cw (aR (aj a5 (cx a5 t2))))))) (by kernel_rfl)) h
def Oq(n:Aa)(sh:List Bool)(bk fl:Int):Option (Empty⊕Ret):=gu (0<=bk) <|el (sh) (bk.toNat) fun(x11:Bool)=>br (!x11) (gu (sh.length<=100000) <|gu (0<=bk/\bk<iN sh.length) <|gu (An n) <|gu ((wth sh bk).length=Am n) <|gu (RwV n) <|some (.inr ([],bV (caB n (wth sh bk) fl)))) (some (.inr ([],bV false)))
theorem ral_ct(n:Aa)(sh:List Bool)(bk fl:Int)(r:Ret)(h:Ac emT (Oq n sh bk fl) r):CT Wu 111 ([]) ([Ai n,.lst (boL sh),.int .i64 bk,.int .i64 fl]) r.1 r.2:=CT.mach (fn:=Tryz.f111) (c:=zB Tryz.f111) (S:=emS) (hd:=emH) Tryz.func111 (by kernel_rfl) (nL rfl) (fun s o ho=>match s,ho with | x,_=>x.elim) (fun o ho=>Scr.ok (X:=Oq n sh bk fl) ho mix (.ra bR <|.gu fun a0=>.el fun x11 a1=>.br (fun a2=>.gu fun a3=>.gu fun a4=>.gu fun a5=>.gu fun a6=>.gu fun a7=>have c0:=wth_c a3 a4;have c1:=KM (fl) a5 a6 a7;.tb [29] [(11,bV x11)] [(18,hK c0 [] []),(20,hK c1 [] [])] [] [] (az (aR (aB a0 (Ae (f:=bV) a1) (am (bt a2 (aW a2 (bu (c0)) (aW a2 (bB t9 (aM (c1))) s2)))))))) (fun a2=>.tb [28] [(11,bV x11)] [] [] [] (az (aR (aB a0 (Ae (f:=bV) a1) (am (cA a2 (cc a2)))))))) (by kernel_rfl)) h
def caO(n:Aa)(sh:List Bool)(fl:Int):Bool:=if chE n sh fl=0 then caB n sh fl else false
theorem slZ_ok{n:Aa}{sh:List Bool}(hv:An n)(hl:sh.length=Am n):slZ n sh=slS n sh:=by unfold slZ;rw[Vt (Ob hv hl (by omega))]
theorem O3{n:Aa}(sh:List Bool)(fl:Int)(hrw:RwV n):CT Wu 15 [] [Ai n,.lst (boL sh),.int .i64 fl] [] (.tup [.bool (caO n sh fl),.int .i64 (chE n sh fl)]):=by
 refine car_ct n sh fl ([],_) (.val ?_);unfold Nw caO;rw[Ab hrw];by_cases h:chE n sh fl=0
 case neg=>rw[Ah (Wi.2 h),Vu h]
 obtain⟨hv,hl,_⟩:=MD h;have hb:=LV hv hl;rw[Ad (by rw[h];rfl),Vt h,h,Ab (QC sh),Ab (by rw[A5,Vy];simp only[iN];omega),tk_eq,slZ_ok hv hl,Ab hv.vg];unfold caB;cases muB n.nx (sh.take n.bs.length)<;>rfl
def alB(n:Aa)(sh:List Bool)(bk fl:Int):Bool:= !(sh.getD bk.toNat true)&&caB n (wth sh bk) fl
theorem ral_c{n:Aa}{sh:List Bool}{bk:Int}(fl:Int)(hv:An n)(hl:sh.length=Am n)(hrw:RwV n)(hk:0<=bk/\bk<(n.bs.length:Int)):CT Wu 111 [] [Ai n,.lst (boL sh),.int .i64 bk,.int .i64 fl] [] (.bool (alB n sh bk fl)):=by
 refine ral_ct n sh bk fl ([],_) (.val ?_);have hb:=LV hv hl;have hc:=hv.cel;have hs:=Ay true (show bk.toNat<sh.length by omega);unfold Oq alB;rw[Ab hk.1,Al hs];cases sh.getD bk.toNat true with
 | true=>rfl
 | false=>rw[Ah (by rfl),Ab (by omega),Ab ⟨by omega,by simp only[iN];omega⟩,Ab hv,Ab (by rw[SM];exact hl),Ab hrw];rfl
def Qs(n:Aa)(sh:List Bool)(bk fl:Int):Option (Empty⊕Ret):=gu (RwV n) <|br (chE n sh fl != 0) (some (.inr ([],AV.tup [bV false,iV (chE n sh fl)]))) (br (decide (bk<0)) (some (.inr ([],AV.tup [bV false,iV 19]))) (br (decide (iN (Wn bA n.bs).length<=bk)) (some (.inr ([],AV.tup [bV false,iV 19]))) (gu (0<=bk) <|el (sh) (bk.toNat) fun(x33:Bool)=>br x33 (some (.inr ([],AV.tup [bV false,iV 0]))) (gu (1 * iN (boL sh).length<=281474976710656) <|gu (iN (boL sh).length<=9223372036854775807) <|gu (∀(e:AV),e∈boL sh->e.cells.length=1) <|gu (bk<iN (boL sh).length) <|gu ((0+bk.toNat).succ.le ([]++Wq (min (boL sh).length (boL sh).length) (boL sh)++Wp (0+min (boL sh).length (boL sh).length) (Wo (boL sh).length (bV false))).length) <|some (.inr ([],AV.tup [bV (caO n ((Wq (min (boL sh).length (boL sh).length) sh++Wp (0+min (boL sh).length (boL sh).length) (Wo (boL sh).length false)).set (0+bk.toNat) true) fl),iV (chE n ((Wq (min (boL sh).length (boL sh).length) sh++Wp (0+min (boL sh).length (boL sh).length) (Wo (boL sh).length false)).set (0+bk.toNat) true) fl)]))))))
theorem all_ct(n:Aa)(sh:List Bool)(bk fl:Int)(r:Ret)(h:Ac emT (Qs n sh bk fl) r):CT Wu 82 ([]) ([Ai n,.lst (boL sh),.int .i64 bk,.int .i64 fl]) r.1 r.2:=CT.mach (fn:=Tryz.f82) (c:=zB Tryz.f82) (S:=emS) (hd:=emH) Tryz.func82 (by kernel_rfl) (nL rfl) (fun s o ho=>match s,ho with | x,_=>x.elim) (fun o ho=>Scr.ok (X:=Qs n sh bk fl) ho mix (.ra (bz t3) <|.gu fun a0=>have c0:=Pp (sh) (fl) a0;.rv 1 [] [] [(15,hK c0 [] [])] (af (bb (bB t9 (aM (c0))) s2) aE) <|.br (fun a1=>.ta [33] (aJ a1 (u2 bn) t3)) (fun a1=>.br (fun a2=>.ta [32,47] (cw (cf a1 (bb a2 (aZ a2 (cc a2))) t3))) (fun a2=>.rb [32,46] (bX a1 (b6 a2 t3 s2)) <|.br (fun a3=>.ta [46,41] (aJ a3 t3 t3)) (fun a3=>.gu fun a4=>.el fun x33 a5=>.rd [46,40] [(33,bV x33)] [] (af a3 (bN a4 (Ae (f:=bV) a5) aw)) <|.br (fun a6=>.ta [46,61] (aJ a6 t3 t3)) (fun a6=>.gu fun a7=>.gu fun a8=>.rb [46,60] (af a6 (bN (show 0<=iN (boL sh).length from(Int.natCast_nonneg _)) (ab (show iN (boL sh).length<=iN (boL sh).length by omega) a7 a8) s2)) <|.gu fun a9=>.rb [46] (aR (al (an (show 0+(boL sh).length<=(Wo (boL sh).length (bV false)).length by simp) a9))) <|.gu fun a10=>.gu fun a11=>have c1:=O3 ((Wq (min (boL sh).length (boL sh).length) sh++Wp (0+min (boL sh).length (boL sh).length) (Wo (boL sh).length false)).set (0+bk.toNat) true) (fl) a0;.tb [46] [] [(47,hK c1 [] [1])] [] [] (aJ (cD (an a4 a10) (ak a11)) (bb (k3 (b9 t9 (show(boL sh).length=(([]++Wq (min (boL sh).length (boL sh).length) (boL sh)++Wp (0+min (boL sh).length (boL sh).length) (Wo (boL sh).length (bV false))).set (0+bk.toNat) (bV true)).length by simp) (show CT Wu 15 [] [AV.agg [Wt (Wn bA n.bs),Wt (gL n.nx),Wt (Wn sA n.ss),Wt (Wn iv n.rs),iv n.q,iv n.a,iv n.d,iv n.p],Wt (([]++Wq (min (boL sh).length (boL sh).length) (boL sh)++Wp (0+min (boL sh).length (boL sh).length) (Wo (boL sh).length (bV false))).set (0+bk.toNat) (bV true)),iv fl] [] (AV.tup [bV (caO n ((Wq (min (boL sh).length (boL sh).length) sh++Wp (0+min (boL sh).length (boL sh).length) (Wo (boL sh).length false)).set (0+bk.toNat) true) fl),iv (chE n ((Wq (min (boL sh).length (boL sh).length) sh++Wp (0+min (boL sh).length (boL sh).length) (Wo (boL sh).length false)).set (0+bk.toNat) true) fl)]) from CT.eqs (c1) (by first | (simp only[boL,VJ,Wj,List.map_take,List.map_drop,List.map_replicate,List.nil_append]<;>rfl) | (simp[gL,boL,lI,sA,bA]<;>rfl)) (by first | (simp only[boL,VJ,Wj,List.map_take,List.map_drop,List.map_replicate,List.nil_append]<;>rfl) | (simp[gL,boL,lI,sA,bA]<;>rfl))) (show ∀(blk:Blk),blk∈[]->AY blk from(by intro _ h;cases h)))) (am s2)) t3)))))) (by kernel_rfl)) h
end Go.Proofs.YthjgbnbibebigaaGreat
