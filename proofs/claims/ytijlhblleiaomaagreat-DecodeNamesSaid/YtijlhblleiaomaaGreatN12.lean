/- What functions of the program compute. -/
import Derived.Test.YtijlhblleiaomaaGreatN11
import Derived.Test.YtijlhblleiaomaaGreatN8
import Derived.Test.YtijlhblleiaomaaGreatN7
import Derived.Test.YtijlhblleiaomaaGreatN2
import Derived.Test.YtijlhblleiaomaaGreatN10
set_option linter.unusedVariables false
set_option linter.unusedSimpArgs false
namespace Go.AM.B1
open Go.AM
section
variable (A:PV) (l:List (List je)) (hA:qn A l)
include hA
end
section
variable (call:Fa) (av bs:List PV) (i:Nat) (a b:List je) (V W:PV) (hia:i < av.length) (hib:i < bs.length) (hV:av[i]? =some V) (hW:bs[i]? =some W) (hVL:Ah 3 V (a.map fB)) (hWL:Ah 3 W (b.map fB)) (hw:a.length≤maxLen)
include hia hV hVL
include hib hW hWL hw
end
end Go.AM.B1
namespace Go.AM.B1
open Go.AM
section
variable (A B:PV) (l m:List (List je)) (hA:qn A l) (hB:qn B m)
include hA hB
end
end Go.AM.B1
namespace Go.AM.B1
open Go.AM Go.AM.So
theorem qy (row:List Int):∀ (xs:List Nat) (l:List je),(Md row xs l).length≤l.length+xs.length
 | [],l=>by simp[Md]
 |x::xs,l=>by
  rw[Md]
  have h1:=qy row xs (Ek x (row.getD x 0) l)
  have h2:=VK x (row.getD x 0) l
  simp only[List.length_cons];omega
theorem qH (row:List Int):(Pe row).length≤256:=by
 have:=qy row (List.range 256) []
 simpa[Pe] using this
theorem cz (C:List Int):∀ (k:Nat) (r:List Int×List (List je)),(fh C k r).2.length≤r.2.length+k∧∀ e∈(fh C k r).2,e∈r.2∨e.length≤256
 |0,r=>⟨by simp[fh],fun e he=> .inl he⟩
 |k+1,r=>by
  cases ho:r.1[r.2.length]? with
  |none=>rw[Qq ho];exact⟨by omega,fun e he=> .inl he⟩
  |some o=>
   rw[Js ho]
   obtain⟨h1,h2⟩:=cz C k ((lg C o r.1).1,r.2++[Pe (lg C o r.1).2])
   simp only[List.length_append,List.length_singleton] at h1
   refine⟨by omega,fun e he=> ?_⟩
   rcases h2 e he with h3 | h3
   ·simp only[List.mem_append,List.mem_singleton] at h3
    rcases h3 with h3 | h3
    ·exact .inl h3
    ·refine .inr ?_;rw[h3];exact qH _
   ·exact .inr h3
theorem iM (C:List Int) (k:Nat) (o:List Int):(fh C k (o,[])).2.length≤k∧∀ e∈(fh C k (o,[])).2,e.length≤256:=by
 have h:=cz C k (o,[])
 generalize fh C k (o,[])=r at h ⊢
 refine⟨by simpa using h.1,fun e he=> ?_⟩
 rcases h.2 e he with h | h
 ·cases h
 ·exact h
set_option maxRecDepth 8000 in
theorem oK (C:List Int):(Vm C).length≤64∧∀ e∈Vm C,e.length≤256:=iM C 64 [0]
theorem aC {ss:List ec} {l:List (List je)} (h:Ck ss=some l):l.length≤64∧∀ e∈l,e.length≤256:=by
 unfold Ck at h
 rw[Option.map_eq_some_iff] at h
 obtain⟨r,_,rfl⟩:=h
 exact oK _
theorem LG (e:List je):Ah 3 (nf e) (e.map fB):=by
 unfold nf
 cases e with
 |nil=>exact .inl ⟨rfl,rfl⟩
 |cons a r=>exact .inr rfl
theorem kI {l:List (List je)} (h1:l.length≤64) (h2:∀ e∈l,e.length≤256):qn (jm l) l:=by
 refine⟨⟨l.map nf,.inr rfl,by simp,?_⟩,by omega,fun e he=>by have:=h2 e he;omega⟩
 intro i v e hv he
 rw[List.getElem?_map,he] at hv
 simp at hv;subst hv
 exact LG e
end Go.AM.B1
namespace Go.AM.B1
open Go.AM Go.AM.So
def Fk (es:List je):PV:= .agg ((List.range 256).map fun b=> .int .i8 (Yh es b))
theorem dy {α:Type} {cs vs:List α} (h:vs.length=cs.length):oa cs 0 vs=vs:=by
 apply List.ext_getElem?
 intro p
 rw[So.fg]
 by_cases hp:p < cs.length
 ·rw[dif_pos ⟨by omega,by omega,hp⟩];simp
 ·rw[dif_neg (by omega),List.getElem?_eq_none (by omega),List.getElem?_eq_none (by omega)]
theorem setRow_self {α:Type} (cs:List α):oa cs 0 cs=cs:=dy rfl
theorem wJ:aa.box ((List.replicate 256 (PV.int .i8 0)).map .pv)=b8 fun _=>0:=by
 unfold b8 cellsOf
 rw[List.map_const',List.length_range,List.map_replicate]
theorem TP (n:Nat):(List.replicate n (AV.pv (.int .i8 0))).all AV.one=true:=by
 rw[List.all_eq_true];intro x hx;rw[List.eq_of_mem_replicate hx];rfl
def Cr (o0 o1 o4 o5:aa) (c0 c1 c3 c4 c5:AV) (nl:Bool) (es:List PV):List aa:=[o0,o1,.box [c0,c1,.uq 3 nl 256 es,c3,c4,c5],.tok 256 es.length nl,o4,o5]
section
variable {call:Fa} {o0 o1 o4 o5:aa} {c0 c1 c3 c4 c5:AV}
 (hg:∀ nl es,Kc (Cr o0 o1 o4 o5 c0 c1 c3 c4 c5 nl es))
include hg
theorem jP {E:Tr} {V:PV} {l:List (List je)} {i:Nat} {nl:Bool} {es:List PV} (hV:Ah 1 V (l.map nf)) (hl:l.length≤64) (hle:∀ e∈l,e.length≤256) (ta:∀ e∈l,Qj e) (hi:i < l.length) (he:es.length=i)
 (h8:E.get 8= .ptr 2 0) (h101:E.get 101= .pv V) (h102:E.get 102= .pv (i64 l.length)) (h103:E.get 103= .pv (i64 i)):
 ke (fun r=>∃ E',r=(.norm,⟨E',Cr o0 o1 o4 o5 c0 c1 c3 c4 c5 false (es++[Fk l[i]])++[b8 (Yh l[i])]⟩)∧oe [8,101,102] E E'∧E'.get 103= .pv (i64 (i+1:Nat)))
  (ga call eg ⟨E,Cr o0 o1 o4 o5 c0 c1 c3 c4 c5 nl es⟩):=by
 have hV1:=hV.lit (i:=i) (by simpa using hi)
 have hml:=List.getElem_mem hi
 have hie:=ta _ hml
 have hilen:=hle _ hml
 have hA:=hg nl es
 have hAl:(Cr o0 o1 o4 o5 c0 c1 c3 c4 c5 nl es).length=6:=rfl
 have e1:decide ((i:Int) < (l.length:Int))=true:=Za (by omega)
 have t1:IntKind.i64.wrap ((i:Int)+1)=((i+1:Nat):Int):=Gh (by omega)
 have hvc:(nf l[i]).cells=[nf l[i]]:=by unfold nf;split <;> rfl
 have a1:ma (Cr o0 o1 o4 o5 c0 c1 c3 c4 c5 nl es) 1 (.pv V) (i:Int)=some (.pv (.rp [nf l[i]] 0)):=by
  rw[hV1]
  simp only[ma]
  rw[if_pos ⟨trivial,by unfold Ca;rw[List.length_map];omega⟩,Int.toNat_natCast,List.getElem?_map,List.getElem?_eq_getElem hi,Option.map_some,Option.map_some,hvc]
 have hL:=LG l[i]
 have lL:=hL.len
 rw[List.length_map] at lL
 have hclr:=fun (E2:Tr) (q8:E2.get 8= .ptr 2 0) (q12:E2.get 12= .pv (nf l[i])) (q13:E2.get 13= .ptr 6 0) (q101:E2.get 101= .pv V) (q102:E2.get 102= .pv (i64 l.length)) (q103:E2.get 103= .pv (i64 i)) (q108:E2.get 108= .pv (i64 0))=>
  GN (call:=call) hA (g0:=fun _=>0) (tb:=2) (by rw[hAl];omega) q8 q12 q13 q101 q102 q103 q108
 have hedg:=fun (E2:Tr) (q8:E2.get 8= .ptr 2 0) (q13:E2.get 13= .ptr 6 0) (q101:E2.get 101= .pv V) (q102:E2.get 102= .pv (i64 l.length)) (q103:E2.get 103= .pv (i64 i)) (q114:E2.get 114= .pv (nf l[i])) (q115:E2.get 115= .pv (i64 l[i].length)) (q116:E2.get 116= .pv (i64 0))=>
  FO (call:=call) hA (tb:=2) hie hL hilen (by rw[hAl];omega) q8 q13 q101 q102 q103 q114 q115 q116
 generalize l[i]=ed at *
 have s0:Pa (Cr o0 o1 o4 o5 c0 c1 c3 c4 c5 nl es++[b8 fun _=>0]) 256 (.ptr 6 0) (.pv (.agg (List.replicate 256 (PV.int .i8 0))))=some (Cr o0 o1 o4 o5 c0 c1 c3 c4 c5 nl es++[b8 fun _=>0]):=by
  have hq:=lh (Cr o0 o1 o4 o5 c0 c1 c3 c4 c5 nl es) (b8 fun _=>0)
  have hs:=Wk (Cr o0 o1 o4 o5 c0 c1 c3 c4 c5 nl es) (b8 fun _=>0) (b8 fun _=>0)
  rw[hAl] at hq hs
  simp only[Pa,hq,AV.cells,PV.cells,List.length_map,List.length_replicate,List.map_replicate]
  rw[if_pos ⟨trivial,TP 256⟩]
  rw[← wJ,List.map_replicate] at hs ⊢
  simp only[List.length_replicate]
  rw[if_pos (by omega),setRow_self,hs]
 generalize hA1:Cr o0 o1 o4 o5 c0 c1 c3 c4 c5 nl es++[b8 fun _=>0]=A1 at *
 have hbz:Cr o0 o1 o4 o5 c0 c1 c3 c4 c5 nl es++[aa.box ((List.replicate 256 (PV.int .i8 0)).map .pv)]=A1:=by rw[wJ];exact hA1
 have hap:=So.Jh (List.replicate 256 (PV.int .i8 0))
 rw[List.map_replicate] at hap hbz
 generalize hA0:Cr o0 o1 o4 o5 c0 c1 c3 c4 c5 nl es=A0 at *
 generalize hQ:(fun r:Ex×St=>∃ E',r=_∧_)=Q
 simp -implicitDefEqProofs only[SX,sevalprocAttr,-List.reduceReplicate,eg,h8,h101,h102,h103,e1,a1,Bg,hap,hAl,hbz,s0,List.map_replicate]
 generalize hEE:(Tr.set _ 108 _:Tr)=E2
 have k2:oe [8,101,102,103] E E2:=by
  rw[← hEE]
  repeat refine oe.set ?_ rfl
  exact oe.refl _ _
 have q12:E2.get 12= .pv (nf ed):=by rw[← hEE];simp[Tr.ba,-List.reduceReplicate]
 have q13:E2.get 13= .ptr 6 0:=by rw[← hEE];simp[Tr.ba,-List.reduceReplicate]
 have q108:E2.get 108= .pv (i64 0):=by rw[← hEE];simp[Tr.ba,-List.reduceReplicate]
 refine Wa (hclr E2 ((k2 8 (by simp)).trans h8) q12 q13 ((k2 101 (by simp)).trans h101) ((k2 102 (by simp)).trans h102) ((k2 103 (by simp)).trans h103) q108) ?_
 rintro r ⟨_,E3,rfl,k3⟩
 have k3:oe [8,12,13,101,102,103] E2 E3:=k3
 have z12:=(k3 12 (by simp)).trans q12
 simp -implicitDefEqProofs only[SX,sevalprocAttr,-List.reduceReplicate,z12,lL]
 generalize hEE4:(Tr.set _ 116 _:Tr)=E4
 have k4:oe [8,101,102,103] E E4:=by
  rw[← hEE4]
  repeat refine oe.set ?_ rfl
  exact k2.trans (oe.sub k3 rfl)
 have q13:E4.get 13= .ptr 6 0:=by rw[← hEE4];simp[Tr.ba];exact (k3 13 (by simp)).trans q13
 have q114:E4.get 114= .pv (nf ed):=by rw[← hEE4];simp[Tr.ba]
 have q115:E4.get 115= .pv (i64 ed.length):=by rw[← hEE4];simp[Tr.ba]
 have q116:E4.get 116= .pv (i64 0):=by rw[← hEE4];simp[Tr.ba]
 refine Wa (hedg E4 ((k4 8 (by simp)).trans h8) q13 ((k4 101 (by simp)).trans h101) ((k4 102 (by simp)).trans h102) ((k4 103 (by simp)).trans h103) q114 q115 q116) ?_
 rintro r ⟨_,E5,rfl,k5⟩
 have k5:oe [8,13,101,102,103] E4 E5:=k5
 have k5':oe [8,101,102,103] E E5:=k4.trans (oe.sub k5 rfl)
 have z8:=(k5' 8 (by simp)).trans h8
 have z103:=(k5' 103 (by simp)).trans h103
 have z13:=(k5 13 (by simp)).trans q13
 have p2:∀ d,place (A0++[b8 (Yh ed)]) d (.ptr 2 0)=some (.ptr 2 (0+d)):=fun d=>Ke (by rw[← hA0];rfl) d 0
 have l2:na (A0++[b8 (Yh ed)]) false 1 (.ptr 2 2)=some (.uq 3 nl 256 es):=by rw[← hA0];rfl
 have l13:na (A0++[b8 (Yh ed)]) true 256 (.ptr 6 0)=some (.pv (Fk ed)):=by
  have hgt:(A0++[b8 (Yh ed)])[6]? =some (b8 (Yh ed)):=by rw[← hA0];rfl
  have hl:(cellsOf 256 fun b=>AV.pv (.int .i8 (Yh ed b))).length=256:=Me _ _
  have:cellsOf 256 (fun b=>AV.pv (.int .i8 (Yh ed b)))=((List.range 256).map fun b=>PV.int .i8 (Yh ed b)).map .pv:=by rw[cellsOf,List.map_map];rfl
  rw[na,hgt]
  show ng true 256 (cellsOf 256 fun b=>AV.pv (.int .i8 (Yh ed b))) 0=_
  rw[ng,if_pos rfl,if_pos (by rw[hl];exact Nat.le_refl _),List.drop_zero,List.take_of_length_le (by rw[hl];exact Nat.le_refl _),this,Wo,So.Jh];rfl
 have hap2:Hc (A0++[b8 (Yh ed)]) false .uq 256 true 256 (.uq 3 nl 256 es) (.pv (.lit 256 [Fk ed]))=some (.uq 3 false 256 (es++[Fk ed]),[o0,o1,.box [c0,c1,.uq 3 nl 256 es,c3,c4,c5],.tok 256 (es.length+1) false,o4,o5,b8 (Yh ed)]):=by
  rw[← hA0]
  simp only[Hc,Cr,Oe,List.cons_append,List.nil_append,List.getElem?_cons_succ,List.getElem?_cons_zero,if_true,Option.bind_some,List.length_cons,List.length_nil]
  rw[if_neg (by simp)]
  rw[if_pos ⟨trivial,trivial,trivial,by unfold Cb;omega⟩]
  simp
 have p3:∀ d,place [o0,o1,.box [c0,c1,.uq 3 nl 256 es,c3,c4,c5],.tok 256 (es.length+1) false,o4,o5,b8 (Yh ed)] d (.ptr 2 0)=some (.ptr 2 (0+d)):=fun d=>Ke rfl d 0
 have s3:Pa [o0,o1,.box [c0,c1,.uq 3 nl 256 es,c3,c4,c5],.tok 256 (es.length+1) false,o4,o5,b8 (Yh ed)] 1 (.ptr 2 2) (.uq 3 false 256 (es++[Fk ed]))=some (Cr o0 o1 o4 o5 c0 c1 c3 c4 c5 false (es++[Fk ed])++[b8 (Yh ed)]):=by
  have:(es++[Fk ed]).length=es.length+1:=by simp
  unfold Cr
  rw[this];rfl
 obtain⟨N,hN⟩:∃ N,N=(List.range 256).map fun b=>PV.int .i8 (Yh ed b):=⟨_,rfl⟩
 have hNl:N.length=256:=by rw[hN,List.length_map,List.length_range]
 have hNo:(N.map AV.pv).all AV.one=true:=by
  rw[hN,List.all_eq_true];intro x hx
  rw[List.mem_map] at hx;obtain⟨y,hy,rfl⟩:=hx
  rw[List.mem_map] at hy;obtain⟨z,_,rfl⟩:=hy
  rfl
 have hNP:Fk ed= .agg N:=by rw[hN];rfl
 rw[hNP] at l13 hap2 s3 hQ
 have m0:(PV.agg N).cells=N:=rfl
 have m1:oa (List.map AV.pv (List.replicate 256 (PV.int .i8 0))++[]) 0 (N.map .pv)=N.map .pv:=dy (by rw[List.length_map,List.length_append,List.length_map,List.length_replicate,hNl];rfl)
 have m2:(N.map AV.pv).length=256:=by rw[List.length_map,hNl]
 have m3:=So.Jh N
 have m5:(256≤(List.map AV.pv (List.replicate 256 (PV.int .i8 0))++[]).length)=True:=eq_true (by rw[List.length_append,List.length_map,List.length_replicate];exact Nat.le_add_right _ _)
 have m6:List.take 256 N=N:=List.take_of_length_le (by omega)
 clear hN hNP
 simp -implicitDefEqProofs only[SP,WP,oa,sevalprocAttr,-List.reduceReplicate,z8,z103,z13,p2,l2,l13,hap2,p3,s3,t1,m0,m1,m2,m3,m5,m6,hNo]
 subst hQ
 refine⟨_,rfl,?_,by simp[Tr.ba]⟩
 repeat refine oe.set ?_ rfl
 exact oe.sub k5' rfl
end
end Go.AM.B1
namespace Go.AM.B1
open Go.AM Go.AM.So
theorem Pq {p:Int×Int} (h0:0≤p.1) (h1:p.1≤p.2):((Zd 0 p).length:Int)=p.2 - p.1+1:=by
 rw[KE h0 h1,List.length_map,List.length_range];omega
theorem Hv {p:Int×Int} (h0:0≤p.1) (h1:p.1≤p.2) {k:Nat} (hk:(k:Int) < p.2 - p.1+1):(Zd 0 p)[k]? =some (p.1+k):=by
 rw[KE h0 h1,List.getElem?_map,List.getElem?_range (by omega)];rfl
theorem Xv {top:Int}:∀ {l:List (Int×Int)} {last:Int} (n:Int),Ka top last l=true→Dc n l=n+(fi l).length
 | [],_,n,_=>by simp[Dc,fi]
 |p::l,last,n,h=>by
  obtain⟨h1,h2,h3,h4,h5⟩:=Zc h
  replace h1:0≤p.1:=by omega
  replace h2:p.1≤p.2:=by omega
  have hl:=Pq h1 h2
  rw[Dc,Xv _ h5,fi,List.length_append]
  omega
theorem Ip {top:Int}:∀ {l:List (Int×Int)} {last:Int} {n x:Int} {k:Nat},Ka top last l=true→(fi l)[k]? =some x→me x n l=(n+k,true)∧0≤x∧x≤top∧last+1 < x
 | [],_,n,x,k,_,hk=>by simp[fi] at hk
 |p::l,last,n,x,k,h,hk=>by
  obtain⟨h1,h2,h3,h4,h5⟩:=Zc h
  replace h1:0≤p.1:=by omega
  replace h2:p.1≤p.2:=by omega
  have hl:=Pq h1 h2
  rw[fi] at hk
  rcases Nat.lt_or_ge k (Zd 0 p).length with hlt | hge
  ·rw[List.getElem?_append_left hlt,Hv h1 h2 (by omega)] at hk
   injection hk with hk
   subst hk
   rw[me,if_neg (by omega),if_pos (by omega)]
   exact⟨by rw[Prod.mk.injEq];exact⟨by omega,rfl⟩,by omega,by omega,by omega⟩
  ·rw[List.getElem?_append_right hge] at hk
   obtain⟨g1,g2,g3,g4⟩:=Ip (n:=n+(p.2 - p.1+1)) h5 hk
   rw[me,if_neg (by omega),if_neg (by omega),g1]
   exact⟨by rw[Prod.mk.injEq];exact⟨by omega,rfl⟩,g2,g3,by omega⟩
theorem Yq {top:Int}:∀ {l:List (Int×Int)} {last:Int} {n x:Int},Ka top last l=true→(me x n l).2=true→∃ k:Nat,(fi l)[k]? =some x∧(me x n l).1=n+k
 | [],_,n,x,_,hk=>by simp[me] at hk
 |p::l,last,n,x,h,hk=>by
  obtain⟨h1,h2,h3,h4,h5⟩:=Zc h
  replace h1:0≤p.1:=by omega
  replace h2:p.1≤p.2:=by omega
  have hl:=Pq h1 h2
  rw[me] at hk ⊢
  by_cases c1:x < p.1
  ·rw[if_pos c1] at hk;cases hk
  ·rw[if_neg c1] at hk ⊢
   by_cases c2:x≤p.2
   ·rw[if_pos c2]
    refine⟨(x - p.1).toNat,?_,by show n+x - p.1=_;omega⟩
    rw[fi,List.getElem?_append_left (by omega),Hv h1 h2 (by omega)]
    congr 1;omega
   ·rw[if_neg c2] at hk ⊢
    obtain⟨k,g1,g2⟩:=Yq h5 hk
    refine⟨(Zd 0 p).length+k,?_,by rw[g2];omega⟩
    rw[fi,List.getElem?_append_right (by omega),Nat.add_sub_cancel_left];exact g1
end Go.AM.B1
namespace Go.AM.B1
open Go.AM Go.AM.So
theorem LB:∀ (l:List (Int×Int)),Va XC (Td l)=some l
 | []=>rfl
 |p::l=>by
  show (XC (pr p)).bind _=_
  have:XC (pr p)=some p:=rfl
  rw[this,Option.bind_some]
  show ((Va XC (Td l)).bind fun bs=>some (p::bs))=_
  rw[LB l];rfl
theorem rL {v:PV} {l:List (Int×Int)} (h:Ah 2 v (Td l)):rA v=some l:=by
 rcases h with⟨rfl,h⟩ | rfl
 ·cases l with
  |nil=>rfl
  |cons p l=>cases h
 ·exact LB l
theorem Yy {v:PV} {l:List (Int×Int)} (h:Ah 2 v (Td l)) (hv:Ka 255 (-2) l=true) (hlen:l.length≤4611686018427387904):
 Ei [.rp [v] 0,.rp [i64 0] 0]=some ((fi l).map fun x=>[i64 x]):=by
 have hsm:l.all UD=true:=by
  have:∀ (l:List (Int×Int)) (last:Int),Ka 255 last l=true→l.all UD=true:=by
   intro l
   induction l with
   |nil=>intro _ _;rfl
   |cons p l ih=>
    intro last h
    obtain⟨h1,h2,h3,h4,h5⟩:=Zc h
    rw[List.all_cons,ih _ h5,Bool.and_true]
    exact decide_eq_true (by omega)
  exact this l _ hv
 simp only[Ei,rL h,Option.bind_some,hsm,Bool.true_and]
 rw[if_pos (decide_eq_true (by omega)),iR]
theorem BB {v:PV} {l:List (Int×Int)} (hv:Qp v l) (hp:Jd l):∃ u,Ah 2 u (Td l)∧∀ H,za bf 8 39 [.pv v,.pv (i64 0)] H=some (.mi 35 [.pv (.rp [u] 0),.pv (.rp [i64 0] 0)],H):=by
 obtain⟨u,q1,q2⟩:=qu v l hv.is hv.sz
 rw[sJ hp.2] at q2
 refine⟨u,q2,fun H=> ?_⟩
 have hu1:(AV.pv u).one=true:=by rcases q2 with⟨h,_⟩ | h <;> rw[h] <;> rfl
 have huc:(AV.pv u).cells=[.pv u]:=by rcases q2 with⟨h,_⟩ | h <;> rw[h] <;> rfl
 have c38:bf 38=some aq:=rfl
 rw[Wd bf 7 39 _ H (f:=Fj) rfl]
 simp -implicitDefEqProofs only[SX,sevalprocAttr,Fj,aq,q1,c38,hu1,huc]
end Go.AM.B1
namespace Go.AM.B1
open Go.AM Go.AM.So
def LS (v:AV) (H:List aa) (es:List PV):Prop:=(es=[]∧v= .pv .qa)∨(∃ tk,es≠[]∧v= .uq tk false 1 es∧H[tk]? =some (.tok 1 es.length false))
theorem MQ {x:Int} (h0:0≤x) (h1:x≤255):IntKind.u8.wrap x=x:=by
 unfold IntKind.wrap
 simp[IntKind.signed,IntKind.bits]
 omega
theorem YN {x:Int} (h0:0≤x) (h1:x≤65535):IntKind.u16.wrap x=x:=by
 unfold IntKind.wrap
 simp[IntKind.signed,IntKind.bits]
 omega
theorem KO (call:Fa) {e:Tr} {H:List aa} {bx oid m off fl:Nat} {g:Nat→AV} {x:Int} {es:List PV} (h6:e.get 6= .ptr bx 0) (h7:e.get 7= .pv (i64 x)) (hb:H[bx]? =some (.box [.ic oid m off])) (ho:H[oid]? =some (.seq 258 true (cellsOf m g) fl false))
 (hoff:off+258≤m) (hx0:0≤x) (hx1:x≤255) (hB:LS (g off) H es) (hlen:es.length≤255):
 ∃ s' fl' v,fl'≤m∧ga call ui ⟨e,H⟩=some (.norm,s')∧s'.H[bx]? =some (.box [.ic oid m off])∧
  s'.H[oid]? =some (.seq 258 true (cellsOf m (Br (Br g off v) (off+1+x.toNat) (.pv (.int .u16 (es.length+1))))) fl' false)∧LS v s'.H (es++[.int .u8 x])∧∀ (j:Nat) c,H[j]? =some (.box c)→s'.H[j]? =some (.box c):=by
 have hbo:bx≠oid:=by intro e;subst e;rw[hb] at ho;cases ho
 have wx:=MQ hx0 hx1
 have l6:na H false 1 (.ptr bx 0)=some (.ic oid m off):=by simp[na,hb,ng]
 have lo:=dB (off:=off) ho rfl (by omega)
 have po:∀ d,place H d (.ic oid m off)=some (.ic oid m (off+d)):=fun d=>Yo ho rfl
 have app:∃ v H1,Hc H false .uq 1 false 1 (g off) (.pv (.lit 1 [.int .u8 x]))=some (v,H1)∧LS v H1 (es++[.int .u8 x])∧H1[bx]? =some (.box [.ic oid m off])∧H1[oid]? =some (.seq 258 true (cellsOf m g) fl false)∧v.cells=[v]∧v.one=true∧(∀ K,Mc K 0 v=some (es.length+1))∧∀ (j:Nat) c,H[j]? =some (.box c)→H1[j]? =some (.box c):=by
  rcases hB with⟨rfl,hg⟩ | ⟨tk,hne,hg,htk⟩
  ·refine⟨.uq H.length false 1 [.int .u8 x],H++[.tok 1 1 false],by rw[hg];simp[Hc,Oe,bm],.inr ⟨H.length,by simp,rfl,by simp⟩,?_,?_,rfl,rfl,fun _=>rfl,fun j c hj=>by rw[getElem?_push (getElem?_lt hj)];exact hj⟩
   ·rw[getElem?_push (getElem?_lt hb)];exact hb
   ·rw[getElem?_push (getElem?_lt ho)];exact ho
  ·have h1:tk≠bx:=by intro e;subst e;rw[hb] at htk;cases htk
   have h2:tk≠oid:=by intro e;subst e;rw[ho] at htk;cases htk
   refine⟨.uq tk false 1 (es++[.int .u8 x]),H.set tk (.tok 1 (es.length+1) false),?_,.inr ⟨tk,by simp,rfl,by rw[List.getElem?_set_self (getElem?_lt htk)];simp⟩,?_,?_,rfl,rfl,fun _=>by simp[Mc],fun j c hj=>by rw[List.getElem?_set_ne (fun e=>by subst e;rw[htk] at hj;cases hj)];exact hj⟩
   ·rw[hg];simp[Hc,Oe,htk];omega
   ·rw[List.getElem?_set_ne h1];exact hb
   ·rw[List.getElem?_set_ne h2];exact ho
 obtain⟨v,H1,ha,hB1,hb1,ho1,hv1,hv2,hv3,hbox⟩:=app
 have po1:∀ d,place H1 d (.ic oid m off)=some (.ic oid m (off+d)):=fun d=>Yo ho1 rfl
 have st1:=zw (off:=off) ho1 rfl (by omega) hv1 hv2
 generalize hH2:H1.set oid (.seq 258 true (cellsOf m (Br g off v)) m false)=H2 at st1
 have hb2:H2[bx]? =some (.box [.ic oid m off]):=by rw[← hH2,List.getElem?_set_ne (Ne.symm hbo)];exact hb1
 have ho2:H2[oid]? =some (.seq 258 true (cellsOf m (Br g off v)) m false):=by rw[← hH2,List.getElem?_set_self (getElem?_lt ho1)]
 have l62:na H2 false 1 (.ptr bx 0)=some (.ic oid m off):=by simp[na,hb2,ng]
 have lo2:=dB (off:=off) ho2 rfl (by omega)
 rw[Zo] at lo2
 have po2:∀ d off',place H2 d (.ic oid m off')=some (.ic oid m (off'+d)):=fun d off'=>Yo ho2 rfl
 have w2:IntKind.u16.wrap ((es.length+1:Nat):Int)=(es.length:Int)+1:=by rw[YN (by omega) (by omega)];omega
 have st2:=zw (off:=off+1+x.toNat) (v:= .pv (.int .u16 ((es.length:Int)+1))) ho2 rfl (by omega) rfl rfl
 have hidx:(0≤x∧x < ((256:Nat):Int))=True:=eq_true (by omega)
 generalize hH3:H2.set oid (.seq 258 true (cellsOf m (Br (Br g off v) (off+1+x.toNat) (.pv (.int .u16 ((es.length:Int)+1))))) m false)=H3 at st2
 have key:ke (fun r=>r.1= .norm∧r.2.H=H3) (ga call ui ⟨e,H⟩):=by
  clear hB hB1 hb ho hb1 ho1 hb2 ho2 hH2 hH3
  have hsr:oa [AV.pv (PV.int .u8 0)] 0 [AV.pv (PV.int .u8 x)]=[AV.pv (PV.int .u8 x)]:=rfl
  have hal:([AV.pv (PV.int .u8 x)].all AV.one=true)=True:=eq_true rfl
  have hfr:fresh H .lit 1 false 1 [AV.pv (PV.int .u8 x)]=some (.pv (.lit 1 [.int .u8 x]),H):=rfl
  generalize hQ:(fun r:Ex×St=>r.1=Ex.norm∧_)=Q
  simp -implicitDefEqProofs only[SX,sevalprocAttr,ui,h6,h7,l6,lo,po,wx,ha,po1,st1,l62,lo2,po2,hv3,w2,hidx,st2,hsr,hal,hfr]
  subst hQ
  exact⟨rfl,rfl⟩
 obtain⟨⟨ex,s'⟩,h1,h2,h3⟩:=vd key
 simp only at h2 h3
 subst h2
 refine⟨s',m,v,Nat.le_refl _,h1,?_,?_,?_,fun j c hj=> ?_⟩
 ·rw[h3,←hH3,List.getElem?_set_ne (Ne.symm hbo)];exact hb2
 ·rw[h3,←hH3];exact List.getElem?_set_self (getElem?_lt ho2)
 ·rcases hB1 with h | ⟨tk,q1,q2,q3⟩
  ·exact .inl h
  ·have h4:tk≠oid:=by intro e;subst e;rw[ho1] at q3;cases q3
   refine .inr ⟨tk,q1,q2,?_⟩
   rw[h3,←hH3,List.getElem?_set_ne (Ne.symm h4),←hH2,List.getElem?_set_ne (Ne.symm h4)];exact q3
 ·have hj1:=hbox j c hj
  have hne:oid≠j:=fun e=>by subst e;rw[ho1] at hj1;cases hj1
  rw[h3,←hH3,List.getElem?_set_ne hne,←hH2,List.getElem?_set_ne hne];exact hj1
end Go.AM.B1
namespace Go.AM.B1
open Go.AM Go.AM.So
def mT (x:Int):PV:= .int .u8 x
theorem of_inner (call:Fa) {e:Tr} {bx oid m off:Nat} (h6:e.get 6= .ptr bx 0) (hoff:off+258≤m):∀ (xs:List Int) {H:List aa} {fl:Nat} {g:Nat→AV} {es:List PV},H[bx]? =some (.box [.ic oid m off])→H[oid]? =some (.seq 258 true (cellsOf m g) fl false)→
 (∀ x∈xs,0≤x∧x≤255)→xs.Nodup→LS (g off) H es→es.length+xs.length≤256→
 ∃ H' fl' g',(fl≤m→fl'≤m)∧Og (fun x H=>ga call ui ⟨Gw [(7,40)] (Ml [40] x e),H⟩) (xs.map fun x=>[i64 x]) H=some (.norm,H')∧H'[bx]? =some (.box [.ic oid m off])∧H'[oid]? =some (.seq 258 true (cellsOf m g') fl' false)∧
  LS (g' off) H' (es++xs.map mT)∧(∀ j,j≠off→(∀ x∈xs,j≠off+1+x.toNat)→g' j=g j)∧(∀ (k:Nat) x,xs[k]? =some x→g' (off+1+x.toNat)= .pv (.int .u16 ((es.length+k:Nat)+1)))∧∀ (j:Nat) c,H[j]? =some (.box c)→H'[j]? =some (.box c):=by
 intro xs
 induction xs with
 |nil=>
  intro H fl g es hb ho _ _ hB _
  exact⟨H,fl,g,id,rfl,hb,ho,by simpa using hB,fun _ _ _=>rfl,fun k x h=>by simp at h,fun _ _ h=>h⟩
 |cons x xs ih=>
  intro H fl g es hb ho hx hnd hB hlen
  obtain⟨hx0,hx1⟩:=hx x (by simp)
  have hnd':=List.nodup_cons.1 hnd
  have e6:(Gw [(7,40)] (Ml [40] [i64 x] e)).get 6= .ptr bx 0:=by simp[Gw,Ml,Tr.ba,h6]
  have e7:(Gw [(7,40)] (Ml [40] [i64 x] e)).get 7= .pv (i64 x):=by simp[Gw,Ml,Tr.ba]
  obtain⟨s',fl',v,q0,q1,q2,q3,q4,q5⟩:=KO call e6 e7 hb ho hoff hx0 hx1 hB (by simp at hlen;omega)
  have hne:off≠off+1+x.toNat:=by omega
  obtain⟨H',fl2,g',r0,r1,r2,r3,r4,r5,r6,r7⟩:=ih (es:=es++[mT x]) q2 q3 (fun y hy=>hx y (by simp[hy])) hnd'.2 (by rw[dq _ _ hne,Zo];exact q4) (by simp at hlen ⊢;omega)
  refine⟨H',fl2,g',fun _=>r0 q0,?_,r2,r3,by simpa using r4,fun j h1 h2=> ?_,fun k y hk=> ?_,fun j c hj=>r7 j c (q5 j c hj)⟩
  ·simp only[List.map_cons,Og,q1,pn];exact r1
  ·rw[r5 j h1 fun y hy=>h2 y (by simp[hy]),dq _ _ (h2 x (by simp)),dq _ _ h1]
  ·cases k with
   |zero=>
    simp at hk;subst hk
    rw[r5 _ (by omega) (fun y hy e=>by
     have:=(hx y (by simp[hy])).1
     have:y=x:=by omega
     subst this;exact hnd'.1 hy),Zo]
    simp
   |succ k=>
    have:=r6 k y (by simpa using hk)
    rw[this]
    congr 3
    simp;omega
end Go.AM.B1
namespace Go.AM.B1
open Go.AM Go.AM.So
theorem CK {e:Tr} {H:List aa} {s:ec} {P:PV} {ps:List PV} {sb oid fl i:Nat} {prod:Int} {g:Nat→AV} (hp:qf P s.parts ps) (hi:i < s.parts.length) (ta:Jd s.parts[i])
 (h1:e.get 1= .pv (.rp [P,i64 s.first] 0)) (h3:e.get 3= .ptr sb 0) (h4:e.get 4= .pv (i64 prod)) (h5:e.get 5= .pv (i64 i)) (hs:H[sb]? =some (.box [.own oid s.parts.length])) (ho:H[oid]? =some (.seq 258 true (cellsOf (s.parts.length * 258) g) fl false))
 (hg:g (i * 258)= .pv .qa) (hw:IntKind.i64.wrap (prod * (fi s.parts[i]).length)=prod * (fi s.parts[i]).length) (hnd:(fi s.parts[i]).Nodup) (hml:(fi s.parts[i]).length≤256) (hmb:∀ x∈fi s.parts[i],0≤x∧x≤255) (hne:fi s.parts[i]≠[]) (hfl:fl≤s.parts.length * 258) (hi2:i≤4611686018427387904):
 ke (fun r=>r.1= .norm∧r.2.env.get 1= .pv (.rp [P,i64 s.first] 0)∧r.2.env.get 3= .ptr sb 0∧r.2.env.get 4= .pv (i64 (prod * (fi s.parts[i]).length))∧r.2.env.get 5= .pv (i64 (i - 1))∧r.2.H[sb]? =some (.box [.own oid s.parts.length])∧
  ∃ fl' g',fl'≤s.parts.length * 258∧r.2.H[oid]? =some (.seq 258 true (cellsOf (s.parts.length * 258) g') fl' false)∧LS (g' (i * 258)) r.2.H ((fi s.parts[i]).map mT)∧(∀ j,j≠i * 258→(∀ x∈fi s.parts[i],j≠i * 258+1+x.toNat)→g' j=Br g (i * 258+257) (.pv (i64 prod)) j)∧∀ (k:Nat) x,(fi s.parts[i])[k]? =some x→g' (i * 258+1+x.toNat)= .pv (.int .u16 ((k:Nat)+1))) (ga (za bf 8) vi ⟨e,H⟩):=by
 obtain⟨v,hv1,hv2,hv3⟩:=hp.get hi
 obtain⟨u,hu,hall⟩:=BB hv3 ta
 have hso:sb≠oid:=by intro e;subst e;rw[hs] at ho;cases ho
 have hlt:=getElem?_lt hs
 have hlo:=getElem?_lt ho
 generalize hl:s.parts[i]=l at *
 clear hl hp
 generalize hn:s.parts.length=n at *
 have p3:place H 0 (.ptr sb 0)=some (.ptr sb 0):=by simp[place,hs]
 have l3:na H false 1 (.ptr sb 0)=some (.own oid n):=by simp[na,hs,ng]
 have ia:ma H 258 (.own oid n) (i:Int)=some (.ic oid (n * 258) (i * 258)):=by
  simp only[ma,ho,Me]
  rw[if_pos ⟨trivial,by unfold Ca;omega,by unfold Dg;omega⟩]
  simp
 have hH2:(H++[aa.box [.pv .yd]]).set H.length (.box [.ic oid (n * 258) (i * 258)])=H++[aa.box [.ic oid (n * 258) (i * 258)]]:=by
  rw[List.set_append_right _ _ (Nat.le_refl _)];simp
 have st0:Pa (H++[aa.box [.pv .yd]]) 1 (.ptr H.length 0) (.ic oid (n * 258) (i * 258))=some (H++[aa.box [.ic oid (n * 258) (i * 258)]]):=by
  rw[← hH2]
  simp[Pa,AV.cells,AV.one,oa]
 have hb2:(H++[aa.box [.ic oid (n * 258) (i * 258)]])[H.length]? =some (.box [.ic oid (n * 258) (i * 258)]):=by simp
 have ho2:(H++[aa.box [.ic oid (n * 258) (i * 258)]])[oid]? =some (.seq 258 true (cellsOf (n * 258) g) fl false):=by rw[getElem?_push hlo];exact ho
 have hs2:(H++[aa.box [.ic oid (n * 258) (i * 258)]])[sb]? =some (.box [.own oid n]):=by rw[getElem?_push hlt];exact hs
 generalize H++[aa.box [.ic oid (n * 258) (i * 258)]]=H2 at *
 have l6:na H2 false 1 (.ptr H.length 0)=some (.ic oid (n * 258) (i * 258)):=by simp[na,hb2,ng]
 have p6:∀ d,place H2 d (.ic oid (n * 258) (i * 258))=some (.ic oid (n * 258) (i * 258+d)):=fun d=>Yo ho2 rfl
 have st1:=zw (off:=i * 258+257) (v:= .pv (i64 prod)) ho2 rfl (by omega) rfl rfl
 have hbo:H.length≠oid:=by omega
 have hs3:(H2.set oid (.seq 258 true (cellsOf (n * 258) (Br g (i * 258+257) (.pv (i64 prod)))) (n * 258) false))[sb]? =some (.box [.own oid n]):=by rw[List.getElem?_set_ne (Ne.symm hso)];exact hs2
 have hb3:(H2.set oid (.seq 258 true (cellsOf (n * 258) (Br g (i * 258+257) (.pv (i64 prod)))) (n * 258) false))[H.length]? =some (.box [.ic oid (n * 258) (i * 258)]):=by rw[List.getElem?_set_ne (Ne.symm hbo)];exact hb2
 have ho3:(H2.set oid (.seq 258 true (cellsOf (n * 258) (Br g (i * 258+257) (.pv (i64 prod)))) (n * 258) false))[oid]? =some (.seq 258 true (cellsOf (n * 258) (Br g (i * 258+257) (.pv (i64 prod)))) (n * 258) false):=List.getElem?_set_self (getElem?_lt ho2)
 generalize H2.set oid (.seq 258 true (cellsOf (n * 258) (Br g (i * 258+257) (.pv (i64 prod)))) (n * 258) false)=H3 at *
 have w5:decide ((i:Int)≥0)=true:=decide_eq_true (by omega)
 have r0:∀ H (x y:PV),na H false 1 (.pv (.rp [x,y] 0))=some (.pv x):=fun H x y=>rfl
 have q0:∀ H (x y:PV),place H 0 (.pv (.rp [x,y] 0))=some (.pv (.rp [x,y] 0)):=fun H x y=>rfl
 have il:∀ H,ma H 1 (.pv P) (i:Int)=some (.pv (.rp v.cells 0)):=by
  intro H
  subst hv2
  have hq:i < ps.length:=getElem?_lt hv1
  simp only[ma]
  rw[if_pos ⟨trivial,by unfold Ca;omega⟩,Int.toNat_natCast,hv1];rfl
 have hvc:v.cells=[v]:=by rcases hv3.is with⟨h,_⟩ | h <;> rw[h] <;> rfl
 rw[hvc] at il
 have r1:∀ H (x:PV),na H false 1 (.pv (.rp [x] 0))=some (.pv x):=fun H x=>rfl
 have hlp:=Aq ta.2
 have rv:dt 35 Ei 1 (.mi 35 [.pv (.rp [u] 0),.pv (.rp [i64 0] 0)])=some ((fi l).map fun x=>[i64 x]):=by
  have:((fi l).map fun x=>[i64 x]).all (eN 1)=true:=by
   rw[List.all_eq_true];intro y hy
   obtain⟨x,_,rfl⟩:=List.mem_map.1 hy
   rfl
  simp[dt,Bc,Yy hu ta.2 (by omega)]
  exact fun _ _=>rfl
 have c39:bf 39=some Fj:=rfl
 have hall':=fun H=>(Wd bf 7 39 [AV.pv v,AV.pv (i64 0)] H (f:=Fj) rfl).symm.trans (hall H)
 generalize hQ:(fun r:Ex×St=>r.1=Ex.norm∧_)=Q
 simp -implicitDefEqProofs only[SX,sevalprocAttr,vi,kQ,h1,h3,h4,h5,p3,l3,ia,st0,l6,p6,st1,w5,r0,q0,il,r1,c39,hall',rv,Ms]
 have hin:=fun (E:Tr) (h6:E.get 6= .ptr H.length 0)=>of_inner (za bf 8) (e:=E) h6 (off:=i * 258) (m:=n * 258) (by omega) (fi l) (es:=[]) hb3 ho3 hmb hnd (.inl ⟨rfl,by rw[dq _ _ (by omega)];exact hg⟩) (by simpa using hml)
 generalize hEE:(Tr.set _ 39 _:Tr)=E
 have e6:E.get 6= .ptr H.length 0:=by rw[← hEE];simp[Tr.ba]
 have e1:E.get 1= .pv (.rp [P,i64 s.first] 0):=by rw[← hEE];simp[Tr.ba,h1]
 have e3:E.get 3= .ptr sb 0:=by rw[← hEE];simp[Tr.ba,h3]
 have e4:E.get 4= .pv (i64 prod):=by rw[← hEE];simp[Tr.ba,h4]
 have e5:E.get 5= .pv (i64 i):=by rw[← hEE];simp[Tr.ba,h5]
 clear hEE
 obtain⟨H4,fl4,g4,q0,q1,q2,q3,q4,q5,q6,q7⟩:=hin E e6
 rw[q1]
 have l64:na H4 false 1 (.ptr H.length 0)=some (.ic oid (n * 258) (i * 258)):=by simp[na,q2,ng]
 have p66:∀ d,place H4 d (.ic oid (n * 258) (i * 258))=some (.ic oid (n * 258) (i * 258+d)):=fun d=>Yo q3 rfl
 have l67:=dB (off:=i * 258) q3 rfl (by omega)
 have ln:∀ K,Mc K 0 (g4 (i * 258))=some (fi l).length:=by
  rcases q4 with⟨h,_⟩ | ⟨tk,_,h,_⟩
  ·simp at h;exact absurd h hne
  ·intro K;rw[h];simp[Mc]
 have w1:IntKind.i64.wrap ((i:Int) - 1)=(i:Int) - 1:=Da (by omega)
 simp -implicitDefEqProofs only[SX,sevalprocAttr,xM,e6,e1,e3,e4,e5,l64,p66,l67,ln,hw,w1]
 subst hQ
 refine⟨rfl,?_,?_,?_,?_,?_,fl4,g4,q0 (Nat.le_refl _),q3,by simpa using q4,q5,fun k x hk=>by simpa using q6 k x hk⟩ <;> first | exact q7 _ _ hs3 | simp[Tr.ba,e1,e3]
end Go.AM.B1
namespace Go.AM.B1
open Go.AM Go.AM.So
abbrev dU (w:List Nat):List Int:=w.map fun (n:Nat)=>(n:Int)
theorem Gv:∀ (ls:List (List (Int×Int))) (b:List Int) (k k':Int),(∀ l∈ls,Jd l)→dh ls b k=some k'→k≤k'∧k' < k+Ba ls
 | [],b,k,k',_,h=>by rw[Xp] at h;injection h with h;subst h;rw[Ba];omega
 |l::ls,[],k,k',hp,h=>by
  rw[dh] at h
  ·injection h with h;subst h
   have:=Ue hp;omega
  ·intro _ _ _ _ h2 h3;cases h3
 |l::ls,y::b,k,k',hp,h=>by
  rw[dh] at h
  split at h
  ·next hc=>
   have h0:=hp l (by simp)
   have hb:=Bn (x:=y) (n:=0) h0.2 hc
   obtain⟨h1,h2⟩:=Gv ls b _ _ (fun x hx=>hp x (by simp[hx])) h
   have h3:=Ue (ls:=ls) fun x hx=>hp x (by simp[hx])
   have h4:0≤(me y 0 l).1 * Ba ls:=Int.mul_nonneg hb.1 (by omega)
   have h5:((me y 0 l).1+1) * Ba ls≤Dc 0 l * Ba ls:=Int.mul_le_mul_of_nonneg_right (by omega) (by omega)
   rw[Int.add_mul,Int.one_mul] at h5
   rw[Ba,Int.mul_comm (Ba ls)]
   omega
  ·cases h
theorem IG {s:ec} (h:Mg s) {b:List Int} {k:Int} (hk:zj s b=some k):0≤k∧s.first+k≤1073741823:=by
 unfold zj at hk
 split at hk
 ·obtain⟨h1,h2⟩:=Gv _ _ _ _ h.parts hk
  have h3:=h.last
  rw[h.Jg] at h3
  omega
 ·cases hk
end Go.AM.B1
namespace Go.AM.B1
open Go.AM Go.AM.So
def fO:Int→List (Int×Int)→Option Int
 |_,[]=>none
 |k,p::r=>if k≤p.2 - p.1 then some (p.1+k) else fO (k - (p.2 - p.1+1)) r
theorem Lt {top:Int}:∀ {l:List (Int×Int)} {last k:Int},Ka top last l=true→0≤k→k < Dc 0 l→∃ x,fO k l=some x∧0≤x∧x≤top∧last+1 < x∧∀ n,me x n l=(n+k,true)
 | [],last,k,_,h0,h1=>by simp[Dc] at h1;omega
 |p::l,last,k,hv,h0,h1=>by
  obtain⟨v1,v2,v3,v4,v5⟩:=Zc hv
  rw[Dc,mw] at h1
  rw[fO]
  by_cases c:k≤p.2 - p.1
  ·rw[if_pos c]
   refine⟨_,rfl,by omega,by omega,by omega,fun n=> ?_⟩
   rw[me,if_neg (by omega),if_pos (by omega)]
   congr 1;omega
  ·rw[if_neg c]
   obtain⟨x,q1,q2,q3,q4,q5⟩:=Lt (k:=k - (p.2 - p.1+1)) v5 (by omega) (by omega)
   refine⟨x,q1,q2,q3,by omega,fun n=> ?_⟩
   rw[me,if_neg (by omega),if_neg (by omega),q5]
   congr 1;omega
theorem uy {e:PV} {s:ec} {P:PV} {ps:List PV} (h:ug e s P ps) (ta:Mg s):bl [e]=some (i64 (Ba s.parts)):=by
 obtain⟨b1,hb1,hb1'⟩:=pj h
 have:=hb1'.2 ta
 subst this
 have hst:=ZC h ta
 have hP1:=h.yw.1
 have heq:=h.eq
 subst heq
 have i0:∀ H,ma H 1 (.pv (.lit 1 ((Mh s.parts).map i64))) 0=some (.pv (.rp [i64 (Ba s.parts)] 0)):=fun H=>by
  have:(Mh s.parts).map i64=i64 (Ba s.parts)::((Mh s.parts).map i64).tail:=by
   simp only[Mh,List.range_succ_eq_map,List.map_cons,List.drop_zero,List.tail_cons]
  rw[this]
  simp only[ma]
  rw[if_pos (by unfold Ca;simp)];rfl
 simp -implicitDefEqProofs only[bl,SX,sevalprocAttr,-List.reduceReplicate,Zn,hP1,UM,hb1,hst,i0,Bg]
def Bf:List (List (Int×Int))→Int→List Int
 | [],_=>[]
 |l::r,k=>(fO (k.tdiv (Ba r)) l).getD 0::Bf r (k.tmod (Ba r))
theorem kO {k p q:Int} (h0:0≤k) (hp:1≤p) (h1:k < p * q):0≤k.tdiv p∧k.tdiv p < q∧0≤k.tmod p∧k.tmod p < p∧k.tdiv p * p+k.tmod p=k:=by
 rw[Int.tdiv_eq_ediv_of_nonneg h0,Int.tmod_eq_emod_of_nonneg h0]
 refine⟨Int.ediv_nonneg h0 (by omega),Int.ediv_lt_of_lt_mul (by omega) (by rw[Int.mul_comm];exact h1),Int.emod_nonneg _ (by omega),Int.emod_lt_of_pos _ (by omega),?_⟩
 rw[Int.mul_comm];exact Int.mul_ediv_add_emod k p
theorem Er:∀ (ls:List (List (Int×Int))) (k n:Int),(∀ l∈ls,Jd l)→0≤k→k < Ba ls→dh ls (Bf ls k) n=some (n+k)∧(Bf ls k).length=ls.length∧∀ x∈Bf ls k,0≤x∧x≤255
 | [],k,n,_,h0,h1=>by
   have:k=0:=by rw[Ba] at h1;omega
   subst this
   exact⟨by rw[Xp,Int.add_zero],rfl,by simp[Bf]⟩
 |l::r,k,n,hp,h0,h1=>by
  have hpr:=Ue (ls:=r) fun x hx=>hp x (by simp[hx])
  rw[Ba] at h1
  obtain⟨d1,d2,d3,d4,d5⟩:=kO h0 hpr h1
  obtain⟨x,q1,q2,q3,_,q5⟩:=Lt (hp l (by simp)).2 d1 d2
  obtain⟨i1,i2,i3⟩:=Er r (k.tmod (Ba r)) (n+k.tdiv (Ba r) * Ba r) (fun x hx=>hp x (by simp[hx])) d3 d4
  rw[Bf,q1,Option.getD_some,dh,q5,if_pos rfl]
  simp only[Int.zero_add]
  rw[i1]
  refine⟨by congr 1;omega,by simp[i2],?_⟩
  intro y hy
  rcases List.mem_cons.1 hy with rfl | hy
  ·exact⟨q2,q3⟩
  ·exact i3 y hy
end Go.AM.B1
namespace Go.AM.B1
open Go.AM Go.AM.So
def Gq (l:List (Int×Int)) (x:Nat):PV:= .int .u16 (if (me (x:Int) 0 l).2 then (me (x:Int) 0 l).1+1 else 0)
def Sl (l:List (Int×Int)):PV:= .lit 1 ((fi l).map mT)
def tE (ls:List (List (Int×Int))) (c:Nat):PV:=
 if c % 258=0 then Sl (ls.getD (c / 258) []) else if c % 258=257 then i64 (Ba (ls.drop (c / 258+1))) else Gq (ls.getD (c / 258) []) (c % 258 - 1)
def BD (ls:List (List (Int×Int))) (i:Nat):PV:= .agg ((List.range 258).map fun k=>tE ls (i * 258+k))
def Sg (ls:List (List (Int×Int))):PV:= .rp [.lit 258 ((List.range ls.length).map (BD ls))] 0
def HD (ls:List (List (Int×Int))) (g:Nat→AV) (i:Nat):Prop:=
 (∃ tk,g (i * 258)= .uq tk false 1 ((fi (ls.getD i [])).map mT))∧(∀ y:Nat,y < 256→g (i * 258+1+y)= .pv (Gq (ls.getD i []) y))∧g (i * 258+257)= .pv (i64 (Ba (ls.drop (i+1))))
def JD (g:Nat→AV) (i:Nat):Prop:=g (i * 258)= .pv .qa∧∀ y:Nat,y < 256→g (i * 258+1+y)= .pv (.int .u16 0)
theorem oJ {l:List (Int×Int)} (h:Jd l):fi l≠[]:=by
 intro e
 have h1:=Xv 0 h.2
 rw[e] at h1
 have:=(Gg h).1
 simp at h1;omega
theorem wN {l:List (Int×Int)} (h:Jd l):(fi l).length≤256:=by
 have h1:=Xv 0 h.2
 have:=(Gg h).2
 omega
theorem dw {l:List (Int×Int)} (h:Jd l):∀ x∈fi l,0≤x∧x≤255:=by
 intro x hx
 obtain⟨k,hk,rfl⟩:=List.getElem_of_mem hx
 have:=Ip (n:=0) h.2 (List.getElem?_eq_getElem hk)
 exact⟨this.2.1,this.2.2.1⟩
theorem JH {l:List (Int×Int)} (h:Jd l):(fi l).Nodup:=by
 unfold List.Nodup
 rw[List.pairwise_iff_getElem]
 intro i j hi hj hij e
 have h1:=(Ip (n:=0) h.2 (List.getElem?_eq_getElem hi)).1
 have h2:=(Ip (n:=0) h.2 (List.getElem?_eq_getElem hj)).1
 rw[e,h2] at h1
 injection h1 with h1 _
 omega
theorem wI {l:List (Int×Int)} (h:Jd l) {k:Nat} {x:Int} (hk:(fi l)[k]? =some x):Gq l x.toNat= .int .u16 ((k:Nat)+1):=by
 obtain⟨h1,h2,_⟩:=Ip (n:=0) h.2 hk
 unfold Gq
 rw[Int.toNat_of_nonneg h2,h1]
 simp
theorem XH {l:List (Int×Int)} (h:Jd l) {y:Nat} (hy:(y:Int) ∉ fi l):Gq l y= .int .u16 0:=by
 unfold Gq
 rw[if_neg]
 intro hr
 obtain⟨k,h1,_⟩:=Yq h.2 hr
 exact hy (List.mem_of_getElem? h1)
theorem tQ (z:List PV) (n:Nat):(zi z n).length=n * z.length:=by
 induction n with
 |zero=>simp[zi]
 |succ n ih=>rw[zi,List.length_append,List.length_map,ih,Nat.add_mul];omega
theorem TJ {z:List PV}:∀ {n i k:Nat} {v:PV},i < n→z[k]? =some v→(zi z n)[i * z.length+k]? =some (.pv v)
 |n+1,0,k,v,_,hk=>by
  have:k < z.length:=getElem?_lt hk
  rw[zi,Nat.zero_mul,Nat.zero_add,List.getElem?_append_left (by simpa using this),List.getElem?_map,hk];rfl
 |n+1,i+1,k,v,hi,hk=>by
  rw[zi,List.getElem?_append_right (by rw[List.length_map,Nat.add_mul];omega),List.length_map,Nat.add_mul,show i * z.length+1 * z.length+k - z.length=i * z.length+k by omega]
  exact TJ (by omega) hk
theorem eE (c:List AV):c=cellsOf c.length (fun j=>c.getD j .undef):=by
 apply List.ext_getElem?
 intro j
 by_cases hj:j < c.length
 ·rw[Qn _ hj,List.getD_eq_getElem?_getD,List.getElem?_eq_getElem hj];rfl
 ·rw[List.getElem?_eq_none (by omega),List.getElem?_eq_none (by rw[Me];omega)]
theorem wH {H:List aa} {d:Nat} {f:Nat→PV}:∀ {n:Nat} {g:Nat→AV},(∀ c,c < n→Ab H d (g c)=some (f c))→Va (Ab H d) (cellsOf n g)=some ((List.range n).map f):=by
 have key:∀ (l:List Nat) (g:Nat→AV),(∀ c∈l,Ab H d (g c)=some (f c))→Va (Ab H d) (l.map g)=some (l.map f):=by
  intro l g
  induction l with
  |nil=>intro _;rfl
  |cons a l ih=>intro h;rw[List.map_cons,Va,h a (by simp),Option.bind_some,ih fun c hc=>h c (by simp[hc])];rfl
 intro n g h
 exact key (List.range n) g fun c hc=>h c (List.mem_range.1 hc)
theorem AI {f:Nat→PV} (a n:Nat):(List.range' a n).map f=(List.range n).map fun k=>f (a+k):=by
 rw[List.range'_eq_map_range,List.map_map];rfl
theorem Nx {f:Nat→PV} (sz:Nat):∀ (n a:Nat),chunk sz true n ((List.range' a (n * sz)).map f)=(List.range n).map fun i=> .agg ((List.range sz).map fun k=>f (a+(i * sz+k)))
 |0,a=>by simp[chunk]
 |n+1,a=>by
  have e:List.range' a ((n+1) * sz)=List.range' a sz++List.range' (a+sz) (n * sz):=by
   rw[Nat.add_mul,Nat.one_mul,Nat.add_comm,List.range'_append_1]
  have hl:((List.range' a sz).map f).length=sz:=by simp
  rw[e,List.map_append,chunk,if_pos rfl,List.take_left' hl,List.drop_left' hl,Nx sz n,List.range_succ_eq_map,List.map_cons,List.map_map,AI]
  congr 1
  ·congr 1;apply List.map_congr_left;intro k _;congr 1;omega
  ·apply List.map_congr_left;intro i _
   simp only[Function.comp]
   congr 1;apply List.map_congr_left;intro k _;congr 1
   rw[Nat.succ_mul];omega
end Go.AM.B1
namespace Go.AM.B1
open Go.AM Go.AM.So
theorem wk {e:Tr} {t:Nat}:∀ {l:List Nat},t∈l→(Xb e l).get t=e.get t
 |a::l,h=>by
  rw[Xb,Tr.ba]
  by_cases ht:t=a
  ·rw[if_pos ht,ht]
  ·rw[if_neg ht]
   rcases List.mem_cons.1 h with h | h
   ·exact absurd h ht
   ·exact wk h
theorem zQ {E0:Tr} {H0:List aa} {s:ec} {P:PV} {ps:List PV} {sb oid:Nat} {g0:Nat→AV} (hp:qf P s.parts ps) (ta:Mg s)
 (h1:E0.get 1= .pv (.rp [P,i64 s.first] 0)) (h3:E0.get 3= .ptr sb 0) (h4:E0.get 4= .pv (i64 1)) (h5:E0.get 5= .pv (i64 ((s.parts.length:Int) - 1))) (hs:H0[sb]? =some (.box [.own oid s.parts.length]))
 (ho:H0[oid]? =some (.seq 258 true (cellsOf (s.parts.length * 258) g0) 0 false)) (hz:∀ j,j < s.parts.length→JD g0 j):
 ke (fun r=>∃ E H,r=(.exit 0,⟨E,H⟩)∧E.get 3= .ptr sb 0∧H[sb]? =some (.box [.own oid s.parts.length])∧∃ fl g,H[oid]? =some (.seq 258 true (cellsOf (s.parts.length * 258) g) fl false)∧∀ j,j < s.parts.length→HD s.parts g j)
  (ga (za bf 8) (.Ll [1,2,3,4,5] vi) ⟨E0,H0⟩):=by
 rw[Gn]
 have h8:=ta.hi
 have hpr:=ta.prod.2
 refine Wa (Te (fun r t=>t.env.get 1= .pv (.rp [P,i64 s.first] 0)∧t.env.get 3= .ptr sb 0∧t.env.get 4= .pv (i64 (Ba (s.parts.drop (s.parts.length - r))))∧t.env.get 5= .pv (i64 ((s.parts.length:Int) - 1 - r))∧t.H[sb]? =some (.box [.own oid s.parts.length])∧
  ∃ fl g,fl≤s.parts.length * 258∧t.H[oid]? =some (.seq 258 true (cellsOf (s.parts.length * 258) g) fl false)∧(∀ j,s.parts.length - r≤j→j < s.parts.length→HD s.parts g j)∧∀ j,j < s.parts.length - r→JD g j)
  s.parts.length (by unfold wa;omega) _ ?_ ?_ ?_) (fun r h=>h.2)
 ·refine⟨?_,?_,?_,?_,hs,0,g0,by omega,ho,fun j a b=>by omega,fun j hj=>hz j (by omega)⟩
  ·simp only[tidy];rw[wk (by simp),h1]
  ·simp only[tidy];rw[wk (by simp),h3]
  ·simp only[tidy];rw[wk (by simp),h4,Nat.sub_zero,List.drop_length];rfl
  ·simp only[tidy];rw[wk (by simp),h5];simp
 ·rintro r ⟨E,H⟩ hr ⟨g1,g3,g4,g5,gs,fl,g,hfl,go,hd,hz⟩
  obtain⟨i,hi⟩:∃ i,i=s.parts.length - 1 - r:=⟨_,rfl⟩
  have hil:i < s.parts.length:=by omega
  have hpo:=ta.parts s.parts[i] (List.getElem_mem hil)
  have hdr:s.parts.drop i=s.parts[i]::s.parts.drop (i+1):=List.drop_eq_getElem_cons hil
  have hpd:Ba (s.parts.drop i)=Ba (s.parts.drop (i+1)) * Dc 0 s.parts[i]:=by rw[hdr,Ba]
  have hle:=Kk ta.parts i
  have hpos:=Ue (ls:=s.parts.drop i) fun x hx=>ta.parts x (List.mem_of_mem_drop hx)
  have hsz:=Xv 0 hpo.2
  rw[Int.zero_add] at hsz
  rw[show s.parts.length - r=i+1 by omega] at g4 hd hz
  have hcol:=CK (e:=E) (H:=H) hp hil hpo g1 g3 g4 (by rw[g5];congr 2;omega) gs go (hz i (by omega)).1 (by rw[← hsz,←hpd];exact Da (by omega)) (JH hpo) (wN hpo) (dw hpo) (oJ hpo) hfl (by omega)
  rw[fa,fw]
  refine Wa hcol ?_
  rintro⟨ex,E',H'⟩ ⟨rfl,q1,q3,q4,q5,qs,fl',g',qfl,qo,qB,qg,qw⟩
  have hgd:s.parts.getD i []=s.parts[i]:=by rw[List.getD_eq_getElem?_getD,List.getElem?_eq_getElem hil];rfl
  have hother:∀ j k,j≠i→k < 258→g' (j * 258+k)=g (j * 258+k):=by
   intro j k hj hk
   rw[qg _ (by omega) (fun x hx=>by have:=dw hpo x hx;omega),dq _ _ (by omega)]
  refine⟨?_,?_,?_,?_,qs,fl',g',qfl,qo,?_,?_⟩
  ·simp only[tidy];rw[wk (by simp)];exact q1
  ·simp only[tidy];rw[wk (by simp)];exact q3
  ·simp only[tidy];rw[wk (by simp),q4,show s.parts.length - (r+1)=i by omega,hpd,hsz]
  ·simp only[tidy];rw[wk (by simp),q5];congr 2;omega
  ·intro j hj1 hj2
   by_cases hji:j=i
   ·subst hji
    refine⟨?_,fun y hy=> ?_,?_⟩
    ·rcases qB with⟨h,_⟩ | ⟨tk,_,h,_⟩
     ·simp at h;exact absurd h (oJ hpo)
     ·exact⟨tk,by rw[hgd];exact h⟩
    ·rw[hgd]
     by_cases hm:(y:Int)∈fi s.parts[j]
     ·obtain⟨k,hk⟩:=List.mem_iff_getElem?.1 hm
      have:=qw k y hk
      rw[Int.toNat_natCast] at this
      rw[this,←wI hpo hk,Int.toNat_natCast]
     ·rw[XH hpo hm,qg _ (by omega) (fun x hx=>by
       intro e
       have:=dw hpo x hx
       have:x=(y:Int):=by omega
       exact hm (this ▸ hx)),dq _ _ (by omega)]
      exact (hz j (by omega)).2 y hy
    ·rw[qg _ (by omega) (fun x hx=>by have:=dw hpo x hx;omega),Zo]
   ·obtain⟨⟨tk,a1⟩,a2,a3⟩:=hd j (by omega) hj2
    refine⟨⟨tk,?_⟩,fun y hy=> ?_,?_⟩
    ·have:=hother j 0 hji (by omega);rw[Nat.add_zero] at this;rw[this];exact a1
    ·have:=hother j (1+y) hji (by omega);rw[← Nat.add_assoc] at this;rw[this];exact a2 y hy
    ·rw[hother j 257 hji (by omega)];exact a3
  ·intro j hj
   have hji:j≠i:=by omega
   obtain⟨a1,a2⟩:=hz j (by omega)
   refine⟨?_,fun y hy=> ?_⟩
   ·have:=hother j 0 hji (by omega);rw[Nat.add_zero] at this;rw[this];exact a1
   ·have:=hother j (1+y) hji (by omega);rw[← Nat.add_assoc] at this;rw[this];exact a2 y hy
 ·rintro⟨E,H⟩ ⟨g1,g3,g4,g5,gs,fl,g,hfl,go,hd,hz⟩
  have e1:decide ((s.parts.length:Int) - 1 - s.parts.length≥0)=false:=mb (by omega)
  generalize hQ:(fun r:Ex×St=>r.1.stop=true∧_)=Q
  simp -implicitDefEqProofs only[SX,sevalprocAttr,-List.reduceReplicate,vi,g5,e1]
  subst hQ
  exact⟨rfl,_,_,rfl,by simp[Tr.ba,g3],gs,fl,g,go,fun j hj=>hd j (by omega) hj⟩
theorem AB {e:PV} {s:ec} {P:PV} {ps:List PV} (h:ug e s P ps) (ta:Mg s):Kn [e]=some (Sg s.parts):=by
 obtain⟨hP1,hP2⟩:=h.yw
 have heq:=h.eq
 subst heq
 have hP:=h.parts
 have lP:=hP.Mc
 have h8:=ta.hi
 generalize hzr:([PV.qa]++List.replicate 256 (PV.int .u16 0)++[PV.int .i64 0])=zr
 have BS:zr.length=258:=by rw[← hzr];simp[-List.reduceReplicate]
 have hzg:∀ i k v,i < s.parts.length→zr[k]? =some v→(zi zr s.parts.length).getD (i * 258+k) .undef= .pv v:=by
  intro i k v hi hk
  rw[List.getD_eq_getElem?_getD,←BS,TJ hi hk];rfl
 have hcz:∀ j,j < s.parts.length→JD (fun c=>(zi zr s.parts.length).getD c .undef) j:=by
  intro j hj
  refine⟨by have:=hzg j 0 .qa hj (by rw[← hzr];rfl);rw[Nat.add_zero] at this;exact this,fun y hy=> ?_⟩
  show (zi zr s.parts.length).getD (j * 258+1+y) .undef=_
  rw[Nat.add_assoc]
  refine hzg j (1+y) _ hj ?_
  rw[← hzr,List.getElem?_append_left (by simp[-List.reduceReplicate];omega),List.getElem?_append_right (by simp[-List.reduceReplicate]),List.getElem?_replicate]
  rw[if_pos (by simp[-List.reduceReplicate];omega)]
 have hcell:zi zr s.parts.length=cellsOf (s.parts.length * 258) (fun c=>(zi zr s.parts.length).getD c .undef):=by
  have:=eE (zi zr s.parts.length)
  rw[tQ,BS] at this
  exact this
 generalize (fun c=>(zi zr s.parts.length).getD c AV.undef)=g0 at *
 have r0:∀ H (x y:PV),na H false 1 (.pv (.rp [x,y] 0))=some (.pv x):=fun H x y=>rfl
 have q0:∀ H (x y:PV),place H 0 (.pv (.rp [x,y] 0))=some (.pv (.rp [x,y] 0)):=fun H x y=>rfl
 have e2:(0≤(s.parts.length:Int))=True:=by simp
 have e3:((s.parts.length:Int)≤(s.parts.length:Int))=True:=by simp
 have e4:Cb s.parts.length 544:=by unfold Cb;omega
 have t1:IntKind.i64.wrap ((s.parts.length:Int) - 1)=(s.parts.length:Int) - 1:=Da (by omega)
 have m1:nm ([PV.qa].map .pv) [(0,1,AV.own 0 s.parts.length)]=some [AV.own 0 s.parts.length]:=rfl
 have m2:Wo [AV.own 0 s.parts.length]= .agg [AV.own 0 s.parts.length]:=rfl
 have m3:(([AV.own 0 s.parts.length]:List AV).length=1∧([AV.own 0 s.parts.length]:List AV).all AV.one=true)=True:=by simp[AV.one]
 have hlp:=fun (E:Tr) (a1:E.get 1= .pv (.rp [P,i64 s.first] 0)) (a3:E.get 3= .ptr 1 0) (a4:E.get 4= .pv (i64 1)) (a5:E.get 5= .pv (i64 ((s.parts.length:Int) - 1)))=>
  zQ (E0:=E) (H0:=[.seq 258 true (cellsOf (s.parts.length * 258) g0) 0 false,.box [.own 0 s.parts.length]]) hP ta a1 a3 a4 a5 (sb:=1) (oid:=0) rfl rfl hcz
 have p1:∀ A B,place [A,.box B] 0 (.ptr 1 0)=some (.ptr 1 0):=fun A B=>rfl
 have l1:∀ A b,na [A,.box [b]] false 1 (.ptr 1 0)=some b:=fun A b=>rfl
 have hw:Dg 258 s.parts.length 0 (cellsOf (s.parts.length * 258) g0).length:=⟨Nat.zero_le _,by rw[Me];exact Nat.le_refl _⟩
 have ln:Mc [.seq 258 true (cellsOf (s.parts.length * 258) g0) 0 false,.box [.own 0 s.parts.length]] 0 (.own 0 s.parts.length)=some s.parts.length:=by
  simp only[Mc,List.getElem?_cons_zero,if_pos hw]
 have hfin:∀ (H:List aa) (fl:Nat) (g:Nat→AV),H[1]? =some (.box [.own 0 s.parts.length])→H[0]? =some (.seq 258 true (cellsOf (s.parts.length * 258) g) fl false)→(∀ j,j < s.parts.length→HD s.parts g j)→Ab H 6 (.ptr 1 0)=some (Sg s.parts):=by
  intro H fl g h1 h0 hd
  have hm:Va (Ab H 4) (cellsOf (s.parts.length * 258) g)=some ((List.range (s.parts.length * 258)).map (tE s.parts)):=by
   refine wH fun c hc=> ?_
   obtain⟨⟨tk,a1⟩,a2,a3⟩:=hd (c / 258) (by omega)
   unfold tE
   by_cases k0:c % 258=0
   ·rw[if_pos k0,show c=c / 258 * 258 by omega,a1,show c / 258 * 258 / 258=c / 258 by omega];rfl
   ·rw[if_neg k0]
    by_cases k1:c % 258=257
    ·rw[if_pos k1]
     have e:g c=g (c / 258 * 258+257):=by congr 1;omega
     rw[e,a3];rfl
    ·rw[if_neg k1]
     have e:g c=g (c / 258 * 258+1+(c % 258 - 1)):=by congr 1;omega
     rw[e,a2 _ (by omega)];rfl
  have hc2:s.parts.length * 258=(cellsOf (s.parts.length * 258) g).length∧(true||(258:Nat)==1)=true:=⟨(Me _ _).symm,rfl⟩
  have h5:Ab H 5 (.own 0 s.parts.length)=some (.lit 258 ((List.range s.parts.length).map (BD s.parts))):=by
   simp only[Ab,h0,if_pos hc2,Bool.false_eq_true,if_false,hm,Option.map_some,List.range_eq_range' (n:=s.parts.length * 258),Nx,Nat.zero_add]
   rfl
  show (match H[1]? with | some (.box cells)=>(Va (Ab H 5) cells).map fun ps=>PV.rp ps 0 | _=>none)=_
  rw[h1]
  simp only[Va,h5,Option.bind_some,Option.map_some]
  rfl
 have hzr':PV.qa::(List.replicate 256 (PV.int .u16 0)++[PV.int .i64 0])=zr:=hzr
 have m4:oa [AV.pv PV.qa] 0 [AV.own 0 s.parts.length]=[AV.own 0 s.parts.length]:=rfl
 have m5:Bc [AV.own 0 s.parts.length]=none:=rfl
 have m6:[AV.own 0 s.parts.length].all AV.one=true:=rfl
 simp -implicitDefEqProofs only[Kn,SX,sevalprocAttr,-List.reduceReplicate,Mn,hP1,r0,q0,lP,e2,e3,eq_true e4,hzr',hcell,m4,m5,m6,p1,l1,ln,t1]
 generalize hEE:(Tr.set _ 5 _:Tr)=E
 have a1:E.get 1= .pv (.rp [P,i64 s.first] 0):=by rw[← hEE];simp[Tr.ba]
 have a3:E.get 3= .ptr 1 0:=by rw[← hEE];simp[Tr.ba]
 have a4:E.get 4= .pv (i64 1):=by rw[← hEE];simp[Tr.ba]
 have a5:E.get 5= .pv (i64 ((s.parts.length:Int) - 1)):=by rw[← hEE];simp[Tr.ba]
 obtain⟨r,h1,E',H',rfl,q3,q1,fl,g,q4,q5⟩:=vd (hlp E a1 a3 a4 a5)
 rw[h1]
 have h9:=hfin H' fl g q1 q4 q5
 simp -implicitDefEqProofs only[SX,sevalprocAttr,-List.reduceReplicate,q3,h9]
end Go.AM.B1
