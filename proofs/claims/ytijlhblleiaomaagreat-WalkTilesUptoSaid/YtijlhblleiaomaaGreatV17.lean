/- What functions of the program compute. -/
import Derived.Test.YtijlhblleiaomaaGreatV16
import Derived.Test.YtijlhblleiaomaaGreatV15
import Derived.Test.YtijlhblleiaomaaGreatI3
import Derived.Deep.CondSized
import Derived.Test.YtijlhblleiaomaaGreatV11
import Derived.Test.YtijlhblleiaomaaGreatRows
set_option linter.unusedVariables false
set_option linter.unusedSimpArgs false
namespace Go.AM.B1
open Go.AM Go.AM.So
theorem OT (x:Int) (k:Nat):∃ y:Int,Mo true [.pv (i64 x),.pv (.int .i64 0)]=some (i64 y)∧∃ n:Nat,n≤k∧Mo false [.pv (i64 y),.pv (i64 k)]=some (i64 n):=by
 refine⟨if (0:Int) > x then 0 else x,rfl,?_⟩
 generalize hy:(if (0:Int) > x then (0:Int) else x)=y
 have h0:0≤y:=by rw[← hy];split <;> omega
 refine⟨(if (k:Int) < y then (k:Int) else y).toNat,by split <;> omega,?_⟩
 have:(((if (k:Int) < y then (k:Int) else y).toNat:Nat):Int)=if (k:Int) < y then (k:Int) else y:=by split <;> omega
 rw[this];rfl
section
variable {call call1 call2:Wa}
end
end Go.AM.B1
namespace Go.AM.B1
open Go.AM Go.AM.So
theorem CW (H:List ba) (es:List PV) (a b:Nat) (hab:a≤b) (hb:b≤es.length):ye H 1 (.pv (.lit 1 es)) (some (a:Int)) (some (b:Int))=some (.pv (.lit 1 ((es.drop a).take (b - a)))):=by
 simp only[ye,Option.getD_some,Option.getD_none]
 rw[if_pos ⟨by decide,trivial,by omega,by omega,by omega⟩]
 simp[List.drop_take]
theorem vC {S:PV} {ss:List Lb} {es:List PV} (hS:eb S ss es) (Ba:Tb ss) {u:Int} (hu:u≤9223372036854775807):(∃ Y n,Tf [.agg [S],i64 u]=some (.mc [Y,i64 n]))∧∀ b,BB u ss=some b→Tf [.agg [S],i64 u]=some (.mc [.lit 1 (b.map (PV.int .u8)),i64 0]):=by
 obtain⟨_,h1,h2⟩:=gC hS hu
 refine⟨?_,h2 Ba⟩
 cases hc:BB u ss with
 |none=>exact⟨_,_,h1 Ba hc⟩
 |some b=>exact⟨_,_,h2 Ba b hc⟩
theorem YC (w:List Nat) (n:Nat):(Zn w).drop n=Zn (w.drop n):=by simp[Zn,List.map_drop]
theorem sP {S:PV} {ss:List Lb} {es:List PV} (hS:eb S ss es) (hz:AE ss) {B:PV} {bs:List Int} (hB:Wi B bs) (hw:bs.length≤1000000000000) (fr:Int):Wf [.agg [S],B,i64 fr]=some (.bool true):=by
 have hS1:(AV.pv S).one=true:=by rcases hS.is with⟨h,_⟩ | h <;> rw[h] <;> rfl
 obtain⟨T,hmk,hT⟩:=AN hS hz
 have hfx:=VJ
 rcases hT with rfl | ⟨Ba,hpre,hinj,l,ha,hT,ho⟩
 ·have e1:∀ H,Vs H 1 (.pv .Sg) (.pv .Sg)=some true:=fun H=>rfl
  simp -implicitDefEqProofs only[Wf,SX,sevalprocAttr,He,hS1,zc,hmk,hfx,e1]
 have hlong:=nS hT
 obtain⟨R,rfl⟩:∃ R,T= .rp R 0:=by
  obtain⟨S',NX,DG,RW,h,_⟩:=hT.ex
  exact⟨_,h⟩
 have e1:∀ H,Vs H 1 (.pv (.rp R 0)) (.pv .Sg)=some false:=fun H=>rfl
 have lB:=hB.Vb
 obtain⟨y,hy,n,hn,hmn⟩:=OT fr bs.length
 obtain⟨V,hv,hV⟩:=sF hT Ba ho hB hw n
 obtain⟨w,rfl,hwb⟩:=HY hB.HC
 have hEl:(Bm n (Gy ss l ((Zn w).drop n))).length=(Gy ss l ((Zn w).drop n)).length:=zL _ _
 have hle:=wK ss l ((Zn w).drop n)
 rw[List.length_drop] at hle
 generalize hW:Bm n (Gy ss l ((Zn w).drop n))=W at *
 generalize (Gy ss l ((Zn w).drop n)).length=N at *
 have lV:=hV.len
 rw[hEl] at lV
 generalize hL:(Zn w).length=L at *
 have hloop:=fun (E:Tr) (g1:E.get 1= .pv B) (g3:E.get 3= .pv (.rp [S] 0)) (g7:E.get 7= .pv (.rp R 0)) (g9:E.get 9= .pv (i64 n)) (g35:E.get 35= .pv V) (g36:E.get 36= .pv (i64 N)) (g37:E.get 37= .pv (i64 0))=>
  lU (call:=Ea (fun _=>none) 8) (b:=Sb) (live:=[1,3,7,9,35,36,37]) (E0:=E) (H0:=[]) (Q:=fun r=>∃ E,r=(.exit 0,⟨E,[]⟩)∧E.get 1= .pv B∧E.get 9= .pv (i64 L))
   (fun y:Nat×Nat=>[(1,.pv B),(3,.pv (.rp [S] 0)),(7,.pv (.rp R 0)),(9,.pv (i64 y.2)),(35,.pv V),(36,.pv (i64 N)),(37,.pv (i64 y.1))]) (fun _=>[]) (fun i y=>y.1=i∧y.2≤L∧W.drop i=Bm y.2 (Gy ss l ((Zn w).drop y.2))) N (by unfold qa;omega) (fun _=>rfl)
   (fun i y _=>⟨by simp[LW],wT rfl,rfl⟩) ⟨(0,n),⟨g1,g3,g7,g9,g35,g36,g37,trivial⟩,rfl,rfl,hn,hW.symm⟩
   (by
    rintro _ ⟨i,a⟩ E hi ⟨rfl,haL,hr⟩ ⟨g1,g3,g7,g9,g35,g36,g37,_⟩
    dsimp only at *
    have hiW:i < W.length:=by omega
    have hne:(Zn w).drop a≠[]:=fun h=>by
     rw[h,XS,Bm] at hr
     have:=congrArg List.length hr
     rw[List.length_drop] at this
     simp at this;omega
    have hne':w.drop a≠[]:=fun h=>hne (by rw[YC,h];rfl)
    have te:=YW Ba hpre hinj ha (w:=w.drop a) (fun x hx=>hwb x (List.mem_of_mem_drop hx)) hne'
    rw[GA ss l hne,Bm,List.drop_drop] at hr
    rw[← YC] at te
    generalize wC ss l ((Zn w).drop a)=e at *
    have hget:W[i]? =some (Bp e a):=by
     have:=congrArg (fun x=>x[0]?) hr
     simpa using this
    have hnext:W.drop (i+1)=Bm (a+e.size) (Gy ss l ((Zn w).drop (a+e.size))):=by
     have:=congrArg (fun x=>x.drop 1) hr
     simpa[Nat.add_comm] using this
    have hwl:w.length=L:=by rw[← hL,WN]
    obtain⟨t1,t2,t3,t4⟩:=te
    rw[List.length_drop,hwl] at t2
    have hVl:=hV.lit (i:=i) hiW
    have a1:∀ H,wa H 5 (.pv V) (i:Int)=some (.pv (.rp [i64 e.kind,i64 a,i64 e.size,i64 e.u,i64 0] 0)):=fun H=>by
     rw[hVl]
     simp only[wa]
     rw[if_pos ⟨trivial,by unfold Ia;omega⟩,Int.toNat_natCast,hget];rfl
    have a2:∀ H,xa H true 5 (.pv (.rp [i64 e.kind,i64 a,i64 e.size,i64 e.u,i64 0] 0))=some (.pv (Bp e a)):=fun H=>rfl
    have st:Oa [.box [.pv (i64 0),.pv (i64 0),.pv (i64 0),.pv (i64 0),.pv (i64 0)]] 5 (.ptr 0 0) (.pv (Bp e a))=some [Ol e a]:=rfl
    have p0:place [Ol e a] 0 (.ptr 0 0)=some (.ptr 0 0):=rfl
    have p1:place [Ol e a] 1 (.ptr 0 0)=some (.ptr 0 1):=rfl
    have p2:place [Ol e a] 2 (.ptr 0 0)=some (.ptr 0 2):=rfl
    have p3:place [Ol e a] 3 (.ptr 0 0)=some (.ptr 0 3):=rfl
    have p4:place [Ol e a] 4 (.ptr 0 0)=some (.ptr 0 4):=rfl
    have f0:xa [Ol e a] false 1 (.ptr 0 0)=some (.pv (i64 e.kind)):=rfl
    have f1:xa [Ol e a] false 1 (.ptr 0 1)=some (.pv (i64 a)):=rfl
    have f2:xa [Ol e a] false 1 (.ptr 0 2)=some (.pv (i64 e.size)):=rfl
    have f3:xa [Ol e a] false 1 (.ptr 0 3)=some (.pv (i64 e.u)):=rfl
    have f4:xa [Ol e a] false 1 (.ptr 0 4)=some (.pv (i64 0)):=rfl
    have hBl:B= .lit 1 ((Zn w).map u8):=by
     rcases hB.is with⟨_,h⟩ | h
     ·exact absurd (show w=[] by simpa[Zn] using h) (fun h=>hne' (by rw[h];simp))
     ·exact h
    have hpc:((((Zn w).map u8).drop a).take (a+e.size - a))=(Zn ((w.drop a).take e.size)).map u8:=by
     rw[Nat.add_sub_cancel_left,←List.map_drop,YC,←List.map_take,qK]
    have sl:∀ H,ye H 1 (.pv B) (some (a:Int)) (some ((a+e.size:Nat):Int))=some (.pv (.lit 1 ((Zn ((w.drop a).take e.size)).map u8))):=fun H=>by
     rw[hBl,CW H _ a (a+e.size) (by omega) (by rw[List.length_map,WN];omega),hpc]
    have hBp:Wi (.lit 1 ((Zn ((w.drop a).take e.size)).map u8)) (Zn ((w.drop a).take e.size)):=⟨.inr rfl,fun b hb=>hB.HC b (by
     simp only[Zn,List.mem_map] at hb ⊢
     obtain⟨x,hx,rfl⟩:=hb
     exact⟨x,List.mem_of_mem_drop (List.mem_of_mem_take hx),rfl⟩)⟩
    have hdc:=(JM hS hBp).2 Ba
    have b2:∀ H,ED H (.pv (.lit 1 ((Zn ((w.drop a).take e.size)).map u8)))=some (sY (Zn ((w.drop a).take e.size))):=fun H=>gI H _
    have sne:=yY (sY (Zn ((w.drop a).take e.size)))
    have c1:decide ((i:Int) < (N:Int))=true:=Fa (by omega)
    have c2:((a:Int) != (a:Int))=false:=by simp
    have c3:decide ((e.size:Int) < 1)=false:=Ga (by omega)
    have w1:IntKind.i64.wrap ((L:Int) - (a:Int))=(L:Int) - a:=Ca (by omega)
    have c4:decide ((e.size:Int) > (L:Int) - (a:Int))=false:=Ga (by omega)
    have c5:((0:Int) != 0)=false:=rfl
    have w2:IntKind.i64.wrap ((a:Int)+(e.size:Int))=((a+e.size:Nat):Int):=(Ca (by omega)).trans (by omega)
    have w3:IntKind.i64.wrap ((i:Int)+1)=((i+1:Nat):Int):=ym (by omega)
    have hub:e.u≤9223372036854775807:=by
     rcases t4 with⟨_,hcd,_⟩ | ⟨_,h,_⟩ | ⟨_,h,_⟩
     ·obtain⟨s,hs,_,h2,_⟩:=GD Ba.Xo hcd
      have h3:=(Ba.Xo s hs).f1
      have h4:=(Ba.Xo s hs).prod.2
      omega
     ·omega
     ·omega
    have hEn:=vC hS Ba hub
    generalize hPc:Zn ((w.drop a).take e.size)=pc at *
    rcases t4 with⟨k1,hcd,hds,h0,hmo⟩ | ⟨k2,hu0,hds,hsz⟩ | ⟨k3,hu0,hds,hsl,hmo⟩
    ·have hE:=hEn.2 _ hcd
     rw[if_neg (by omega),hds] at hdc
     have d1:(e.kind==1)=true:=by simp[k1]
     have d4:decide ((e.size:Int) > (Xe ss:Int))=false:=Ga (by omega)
     have x2:(e.u != e.u)=false:=by simp
     generalize hQ:RH _ _ _ _=Q
     simp -implicitDefEqProofs only[SX,sevalprocAttr,Sb,zc,g1,g3,g7,g9,g35,g36,g37,lB,hlong,a1,a2,st,p0,p1,p2,p3,p4,f0,f1,f2,f3,f4,sl,b2,sne,c1,c2,c3,w1,c4,c5,w2,w3,hE,hdc,d1,d4,x2]
     subst hQ
     exact⟨(i+1,a+e.size),[Ol e a],by simp[Has,Tr.aa,g1,g3,g7,g35,g36],rfl,rfl,by dsimp only;omega,hnext⟩
    ·obtain⟨Y,m,hE⟩:=hEn.1
     rw[if_pos hds] at hdc
     have d1:(e.kind==1)=false:=by simp[k2]
     have d2:(e.kind==2)=true:=by simp[k2]
     have x3:(e.u != 0)=false:=by simp[hu0]
     have c6:((100:Int)==0)=false:=rfl
     by_cases hbig:Xe ss < e.size
     ·have d4:decide ((e.size:Int) > (Xe ss:Int))=true:=Fa (by omega)
      have d5:decide ((e.size:Int) > 1)=false:=Ga (by omega)
      generalize hQ:RH _ _ _ _=Q
      simp -implicitDefEqProofs only[SX,sevalprocAttr,Sb,zc,g1,g3,g7,g9,g35,g36,g37,lB,hlong,a1,a2,st,p0,p1,p2,p3,p4,f0,f1,f2,f3,f4,sl,b2,sne,c1,c2,c3,w1,c4,c5,w2,w3,hE,hdc,d1,d2,d4,d5,x3,c6]
      subst hQ
      exact⟨(i+1,a+e.size),[Ol e a],by simp[Has,Tr.aa,g1,g3,g7,g35,g36],rfl,rfl,by dsimp only;omega,hnext⟩
     ·have d4:decide ((e.size:Int) > (Xe ss:Int))=false:=Ga (by omega)
      by_cases h1:1 < e.size
      ·have d5:decide ((e.size:Int) > 1)=true:=Fa (by omega)
       have d6:decide ((e.size:Int)≥(Xe ss:Int))=false:=Ga (by omega)
       generalize hQ:RH _ _ _ _=Q
       simp -implicitDefEqProofs only[SX,sevalprocAttr,Sb,zc,g1,g3,g7,g9,g35,g36,g37,lB,hlong,a1,a2,st,p0,p1,p2,p3,p4,f0,f1,f2,f3,f4,sl,b2,sne,c1,c2,c3,w1,c4,c5,w2,w3,hE,hdc,d1,d2,d4,d5,d6,x3,c6]
       subst hQ
       exact⟨(i+1,a+e.size),[Ol e a],by simp[Has,Tr.aa,g1,g3,g7,g35,g36],rfl,rfl,by dsimp only;omega,hnext⟩
      ·have d5:decide ((e.size:Int) > 1)=false:=Ga (by omega)
       generalize hQ:RH _ _ _ _=Q
       simp -implicitDefEqProofs only[SX,sevalprocAttr,Sb,zc,g1,g3,g7,g9,g35,g36,g37,lB,hlong,a1,a2,st,p0,p1,p2,p3,p4,f0,f1,f2,f3,f4,sl,b2,sne,c1,c2,c3,w1,c4,c5,w2,w3,hE,hdc,d1,d2,d4,d5,x3,c6]
       subst hQ
       exact⟨(i+1,a+e.size),[Ol e a],by simp[Has,Tr.aa,g1,g3,g7,g35,g36],rfl,rfl,by dsimp only;omega,hnext⟩
    ·obtain⟨Y,m,hE⟩:=hEn.1
     rw[if_pos hds] at hdc
     have d1:(e.kind==1)=false:=by simp[k3]
     have d2:(e.kind==2)=false:=by simp[k3]
     have d3:(e.kind==3)=true:=by simp[k3]
     have x3:(e.u != 0)=false:=by simp[hu0]
     have c6:((100:Int)==0)=false:=rfl
     have d4:decide ((e.size:Int) > (Xe ss:Int))=false:=Ga (by omega)
     have d6:decide ((e.size:Int)≥(Xe ss:Int))=false:=Ga (by omega)
     have x4:(((a+e.size:Nat):Int) != (L:Int))=false:=by
      have:a+e.size=L:=by rw[List.length_drop,hwl] at hsl;omega
      simp[this]
     generalize hQ:RH _ _ _ _=Q
     simp -implicitDefEqProofs only[SX,sevalprocAttr,Sb,zc,g1,g3,g7,g9,g35,g36,g37,lB,hlong,a1,a2,st,p0,p1,p2,p3,p4,f0,f1,f2,f3,f4,sl,b2,sne,c1,c2,c3,w1,c4,c5,w2,w3,hE,hdc,d1,d2,d3,d4,d6,x3,x4,c6]
     subst hQ
     exact⟨(i+1,a+e.size),[Ol e a],by simp[Has,Tr.aa,g1,g3,g7,g35,g36],rfl,rfl,by dsimp only;omega,hnext⟩)
   (by
    rintro⟨i,a⟩ E ⟨h,haL,hr⟩ ⟨g1,g3,g7,g9,g35,g36,g37,_⟩
    dsimp only at h haL hr g9 g37
    subst h
    have hfin:a=L:=by
     rw[List.drop_eq_nil_of_le (by omega)] at hr
     by_cases hne:(Zn w).drop a=[]
     ·have:=congrArg List.length hne
      rw[List.length_drop,hL] at this
      simp at this;omega
     ·rw[GA ss l hne,Bm] at hr
      cases hr
    subst hfin
    have c1:decide ((i:Int) < (i:Int))=false:=Ga (by omega)
    generalize hQ:(fun r:Ex×St=>r.1.stop=true∧_)=Q
    simp -implicitDefEqProofs only[SX,sevalprocAttr,Sb,g1,g3,g7,g9,g35,g36,g37,c1]
    subst hQ
    exact⟨rfl,_,rfl,by simp[Tr.aa,g1],by simp[Tr.aa,g9]⟩)
 have cL:((L:Int)==(L:Int))=true:=by simp
 apply Yk
 generalize hQ:(fun x=>x=PV.bool true)=Q
 simp -implicitDefEqProofs only[Wf,SX,sevalprocAttr,He,hS1,zc,hmk,hfx,e1,lB,hy,hmn,hv,lV]
 refine za (hloop _ (by simp[Tr.aa]) (by simp[Tr.aa]) (by simp[Tr.aa]) (by simp[Tr.aa]) (by simp[Tr.aa]) (by simp[Tr.aa]) (by simp[Tr.aa])) ?_
 rintro r ⟨_,E,rfl,g1,g9⟩
 simp -implicitDefEqProofs only[SX,sevalprocAttr,g1,g9,lB,cL]
 subst hQ
 rfl
end Go.AM.B1
namespace Go.AM
open Go Go.ChangeShapes Go.WideShapes Go.ChangeAt Go.RowKit
theorem vT {H:Type} {enc:TypeId×Value→H} {C:Checked} {os:Os} {f:FuncId} {fn:Func} {F:List PV→Option PV} {s:OpenSpec} {k:(H:Type)→List (DataW H)→Bool} (hk:s.cond=some k) (Fi:Stop.Interp) {bt:TypeId} {ts:List TypeId} (g:Nat)
 (own:ownKnob C.prog.godebug=none) (laid:laidOutB C.prog=true) (started:os.Started) (noInit:C.prog.inits.idxOf? f=none) (hfn:C.prog.funcs[f]? =some fn)
 (witness:∃ (w:World) (tape:Tape) (i:Input),w.os=os∧(w.forCall tape i).Shaped C.prog∧i.vars=[]∧Input.okWide C.prog (w.forCall tape i) .any w.heap.size f i∧
  s.pre6 enc C.prog fn [] false (w.forCall tape i).memory i.args∧({}:Assume).holds C.prog (lone (Frame.enter C.prog f i.args .normal) [] (w.forCall tape i)))
 (hvars:s.vars=[]) (hvars':(s.at Fi).vars=[]) (hplain:s.bare.plain.varTypes C.prog=[]) (hts:fn.params=ts.toArray) (hres:fn.resultTypes= #[bt]) (hbt:C.prog.underlying bt=some .bool)
 (Ba:CF C.prog g ts=true) (hpure:Na C.prog f F)
 (hspec:∀ ds:List (DataW H),ds.length=ts.length→(s.at Fi).fn H (ds++[])={results:=[.lit (.bool true)],args:=ds})
 (run:∀ ds:List (DataW H),OY C.prog g ts ds→k H (ds++[])=true→F (vZ C.prog g ts ds)=some (.bool true)):
 ReturnsInHanded {} C os f .any (s.pre6 enc C.prog fn [] false) ((s.at Fi).post enc C.prog fn false true false false):=by
 refine returnsInHanded_of_cond_sized hk own started noInit hfn witness ?_
 intro W base args ds gs before hval0 hW _ hkk hwt _
 have hval:∀ (j:Nat) t v,ts[j]? =some t→args.toList[j]? =some v→Value.okWide C.prog W .any base t v:=by
  intro j t v ht hv
  exact hval0 j t v (by rw[hts];simpa using ht) (by simpa using hv)
 have hW':=hW
 obtain⟨p,q,hA0,hV,rfl,_,_⟩:=hW
 rw[hvars] at hV
 obtain⟨rfl,rfl⟩:=trodVars_none hV
 have hA:DataW.TrodAll enc C.prog W 0 (fun _=>true) true ts args.toList ds p:=by rw[hts] at hA0;simpa using hA0
 have hlt:∀ x∈p,x.block < W.heap.size:=fun x hx=>by simpa using hW'.lt x (by simpa using hx)
 have hw':∀ n∈DataW.weightsEach C.prog ts ds,n≤reachBytes:=by
  intro n hn
  rw[hts,hplain] at hwt
  simp only[List.append_nil] at hwt
  have:=List.all_eq_true.1 hwt n (by simpa using hn)
  simpa using this
 have hrel:=NB Ba hval hA
 have hr:=run ds (XD Ba hw' hA) hkk
 refine (HR hpure hrel hr).mono fun e W' ⟨he,hb⟩=> ?_
 subst he
 have hs:=hspec ds (TB hA).2
 refine⟨_,rfl,ds,[],p++[],[],p,[],hW',?_,?_,?_,hb.frame _,fun h=>by cases h⟩
 ·rw[hs,hres]
  exact trodAll_mk1 (shut_bool hbt _)
 ·rw[hs,hts]
  exact Sx laid hb Ba hlt hA
 ·rw[hs,hvars']
  exact rfl
end Go.AM
set_option maxRecDepth 100000
namespace Go.Proofs.YtijlhblleiaomaaGreat
open Go.ChangeShapes Go.WideShapes Go.ChangeAt Go.RowKit Go.AM
theorem eV:Tryz.prog.cellsOf 116=2:=by kernel_rfl
theorem CT:Tryz.prog.bytesOf 116=16:=by kernel_rfl
theorem NT:Tryz.prog.cellsOf 117=1:=by kernel_rfl
theorem nU:Tryz.prog.bytesOf 117=24:=by kernel_rfl
theorem xU:Tryz.prog.cellsOf 107=2:=by kernel_rfl
theorem VU:Tryz.prog.bytesOf 107=32:=by kernel_rfl
theorem TV {g:Nat} {row:List PV} (h:Sh Tryz.prog (g+2) 116 row):∃ p:Int×Int,Hn Tryz.prog 116 row=B1.pr p:=by
 rw[Yz Tryz.underlying116]
 obtain⟨rows,hl,rfl,hr⟩:=cA Tryz.underlying116 h
 match rows,hl with
 | [x,y],_=>
   obtain⟨a,rfl,_⟩:=TA Tryz.underlying3 (hr 0 _ x rfl rfl)
   obtain⟨b,rfl,_⟩:=TA Tryz.underlying3 (hr 1 _ y rfl rfl)
   exact⟨(a,b),rfl⟩
theorem AU {α β:Type} {f:α→β}:∀ {es:List β},(∀ e∈es,∃ a,e=f a)→∃ l:List α,es=l.map f
 | [],_=>⟨[],rfl⟩
 |e::es,h=>by
  obtain⟨a,ha⟩:=h e (by simp)
  obtain⟨l,hl⟩:=AU (es:=es) fun e he=>h e (by simp[he])
  exact⟨a::l,by rw[ha,hl];rfl⟩
theorem MS {g:Nat} {row:List PV} (h:Sh Tryz.prog (g+3) 117 row):∃ (V:PV) (l:List (Int×Int)),row=[V]∧B1.Gm V l:=by
 rcases Cz Tryz.underlying117 h with rfl | ⟨es,rfl,h1,h2,h3⟩
 ·exact⟨_,[],rfl,.inl ⟨rfl,rfl⟩,Nat.zero_le _⟩
 ·obtain⟨l,hl⟩:=AU (f:=B1.pr) (es:=es.map (Hn Tryz.prog 116)) (by
   intro e he
   obtain⟨r,hr,rfl⟩:=List.mem_map.1 he
   exact TV (h3 r hr))
  have hlen:l.length=es.length:=by have:=congrArg List.length hl;simpa using this.symm
  refine⟨_,l,rfl,.inr (by rw[eV,hl]),?_⟩
  rw[hlen]
  rw[CT] at h2
  exact Nat.le_trans h2 (by decide)
theorem nI {R A:Type} {f:R→PV} {Q:PV→A→Prop}:∀ (es:List R),(∀ r∈es,∃ a,Q (f r) a)→∃ l:List A,l.length=es.length∧∀ (k:Nat) v a,(es.map f)[k]? =some v→l[k]? =some a→Q v a
 | [],_=>⟨[],rfl,by simp⟩
 |r::es,h=>by
  obtain⟨a,ha⟩:=h r (by simp)
  obtain⟨l,h1,h2⟩:=nI es fun x hx=>h x (by simp[hx])
  refine⟨a::l,by simp[h1],?_⟩
  intro k v b hv hb
  match k with
  |0=>simp at hv hb;subst hv hb;exact ha
  |k+1=>exact h2 k v b (by simpa using hv) (by simpa using hb)
theorem EU {g:Nat} {row:List PV} (h:Sh Tryz.prog (g+4) 105 row):∃ (P:PV) (ls:List (List (Int×Int))) (ps:List PV),row=[P]∧B1.rf P ls ps∧ls.length * 24≤140737488355328:=by
 rcases Cz Tryz.underlying105 h with rfl | ⟨es,rfl,h1,h2,h3⟩
 ·exact⟨_,[],[],rfl,⟨.inl ⟨rfl,rfl⟩,rfl,by simp,by simp⟩,by simp⟩
 ·obtain⟨l,hl,hq⟩:=nI (f:=Hn Tryz.prog 117) (Q:=B1.Gm) es (by
   intro r hr
   obtain⟨V,l,rfl,hV⟩:=MS (h3 r hr)
   rw[uL Tryz.underlying117]
   exact⟨l,hV⟩)
  have hz:l.length * 24≤140737488355328:=by rw[nU] at h2;rw[hl];exact Nat.le_trans h2 (by decide)
  exact⟨_,l,es.map (Hn Tryz.prog 117),rfl,⟨.inr (by rw[NT]),by rw[List.length_map,hl],hq,by unfold maxLen;omega⟩,hz⟩
theorem HU {g:Nat} {row:List PV} (h:Sh Tryz.prog (g+5) 107 row):∃ (s:B1.Lb),(∃ P ps,B1.pf (Hn Tryz.prog 107 row) s P ps)∧s.parts.length * 24≤140737488355328:=by
 rw[Yz Tryz.underlying107]
 obtain⟨rows,hl,rfl,hr⟩:=cA Tryz.underlying107 h
 match rows,hl with
 | [x,y],_=>
   obtain⟨P,ls,ps,rfl,hP,hz⟩:=EU (hr 0 _ x rfl rfl)
   obtain⟨b,rfl,_⟩:=TA Tryz.underlying3 (hr 1 _ y rfl rfl)
   exact⟨⟨ls,b⟩,⟨P,ps,rfl,hP⟩,hz⟩
theorem iS {g:Nat} {row:List PV} (h:Sh Tryz.prog (g+6) 22 row):∃ (S:PV) (ss:List B1.Lb) (es:List PV),row=[S]∧B1.eb S ss es∧B1.AE ss:=by
 rcases Cz Tryz.underlying22 h with rfl | ⟨es,rfl,h1,h2,h3⟩
 ·exact⟨_,[],[],rfl,⟨.inl ⟨rfl,rfl⟩,rfl,by simp,by simp⟩,⟨by simp,by simp⟩⟩
 ·obtain⟨l,hl,hq⟩:=nI (f:=Hn Tryz.prog 107) (Q:=fun e s=>(∃ P ps,B1.pf e s P ps)∧s.parts.length * 24≤140737488355328) es (fun r hr=>HU (h3 r hr))
  have hz:l.length * 32≤140737488355328:=by rw[VU] at h2;rw[hl];exact Nat.le_trans h2 (by decide)
  refine⟨_,l,es.map (Hn Tryz.prog 107),rfl,⟨.inr (by rw[xU]),by rw[List.length_map,hl],fun k e s he hs=>(hq k e s he hs).1,by unfold maxLen;omega⟩,hz,?_⟩
  intro s hs
  obtain⟨k,hk,rfl⟩:=List.getElem_of_mem hs
  exact (hq k _ _ (List.getElem?_eq_getElem (by rw[List.length_map];omega)) (List.getElem?_eq_getElem hk)).2
theorem OQ {g:Nat} {row:List PV} (h:Sh Tryz.prog (g+7) 24 row):∃ (S:PV) (ss:List B1.Lb) (es:List PV),row=[S]∧B1.eb S ss es∧B1.AE ss:=by
 obtain⟨rows,hl,rfl,hr⟩:=cA Tryz.underlying24 h
 match rows,hl with
 | [x],_=>
   obtain⟨S,ss,es,rfl,h1,h2⟩:=iS (hr 0 _ x rfl rfl)
   exact⟨S,ss,es,rfl,h1,h2⟩
theorem own:ownKnob Tryz.prog.godebug=none:=by kernel_rfl
theorem laidOut:laidOutB Tryz.prog=true:=by kernel_rfl
theorem UX:Tryz.prog.cellsOf 5=1:=by kernel_rfl
theorem wY:Tryz.prog.bytesOf 5=1:=by kernel_rfl
theorem wf_u8 {n:Int} (h:(Lit.int .u8 n).wf=true):0≤n∧n≤255:=by
 simp only[Lit.wf,Bool.and_eq_true,decide_eq_true_eq] at h
 exact h
theorem wV {g:Nat} {row:List PV} (h:Sh Tryz.prog (g+2) 25 row):∃ (B:PV) (bs:List Int),row=[B]∧B1.Wi B bs∧bs.length≤reachBytes:=by
 rcases eW Tryz.underlying25 Tryz.underlying5 h with rfl | ⟨l,rfl,_,hl,hw⟩
 ·exact⟨_,[],rfl,⟨.inl ⟨rfl,rfl⟩,by simp⟩,Nat.zero_le _⟩
 ·rw[wY,Nat.mul_one] at hl
  exact⟨_,l,rfl,⟨.inr (by rw[UX]),fun b hb=>wf_u8 (hw b hb)⟩,hl⟩
end Go.Proofs.YtijlhblleiaomaaGreat
namespace Go.Proofs.YtijlhblleiaomaaGreat
open Go.ChangeShapes Go.WideShapes Go.ChangeAt Go.RowKit Go.AM
theorem bV {H:Type} (d:DataW H):1≤Rows.uptoBulk d:=by
 cases d with
 |lit l=>cases l <;> simp[Rows.uptoBulk]
 |nil=>simp[Rows.uptoBulk]
 |ptr d=>simp[Rows.uptoBulk]
 |slice elems spare=>simp[Rows.uptoBulk]
 |agg parts=>simp[Rows.uptoBulk]
 |iface t d=>simp[Rows.uptoBulk]
 |map entries=>simp[Rows.uptoBulk]
 |held h=>simp[Rows.uptoBulk]
theorem GL {H:Type} (l:List (DataW H)):l.length≤Rows.uptoBulkAll l:=by
 induction l with
 |nil=>simp[Rows.uptoBulkAll]
 |cons x r ih=>have:=bV x;simp only[Rows.uptoBulkAll,List.length_cons];omega
theorem GR {H:Type} {d:DataW H} {l:List (DataW H)} (h:d∈l):Rows.uptoBulk d≤Rows.uptoBulkAll l:=by
 induction l with
 |nil=>cases h
 |cons x r ih=>
  simp only[Rows.uptoBulkAll]
  cases List.mem_cons.1 h with
  |inl e=>subst e;omega
  |inr e=>have:=ih e;omega
theorem LM {H:Type} {l:List (DataW H)} (hk:Rows.uptoSmall H l=true):Rows.uptoBulkAll l≤1048576:=of_decide_eq_true hk
theorem SN {H:Type} {P:Program} {g:Nat} {t e:TypeId} (hu:P.underlying t=some (.slice e)) {d:DataW H} {c:Nat} {es:List PV} (h:rowOf P (g+1) t d=[.lit c es]):es.length≤Rows.uptoBulk d:=by
 cases d with
 |slice els sp=>
  simp only[rowOf,hu,List.cons.injEq,PV.lit.injEq,and_true] at h
  rw[← h.2,List.length_map]
  have:=GL els
  simp only[Rows.uptoBulk]
  omega
 |lit l=>cases l <;> simp[rowOf,hu] at h
 |_=>simp[rowOf,hu] at h
end Go.Proofs.YtijlhblleiaomaaGreat
