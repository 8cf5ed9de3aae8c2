/- What functions of the program compute. -/
import Derived.Test.YtdglpnpkgngcdaaGreatM12
import Derived.Test.YtdglpnpkgngcdaaGreatM8
import Derived.Test.YtdglpnpkgngcdaaGreatM4
set_option linter.unusedVariables false
set_option linter.unusedSimpArgs false
namespace Go.AM.B1
open Go.AM Go.AM.So
theorem edgesS_to {row:List Int} {e:Edg} (he:e∈edgesS row):0≤e.lo∧e.lo≤e.hi∧e.hi < 256∧e.to≠ -2∧e.to=row.getD e.lo.toNat 0:=by
 have h:=edges_inv row
 obtain⟨h1,h2,h3,h4⟩:=h.rng e he
 have hs:=h.step e.lo.toNat (by omega)
 rw[Int.toNat_of_nonneg h1,stepEd_mem h.ord e he (Int.le_refl _) h2] at hs
 refine⟨h1,h2,h3,h4,?_⟩
 split at hs
 ·cases hs
 ·injection hs
theorem edges_ok {ss:List Shp} {l:List (List Edg)} (hok:SchOk ss) (hpre:PreOk ss) (h:autoS ss=some l):∀ e∈l,EdgesOk e:=by
 obtain⟨sets,C,O,L⟩:=auto_is hok hpre h
 intro e he
 obtain⟨k,hk,rfl⟩:=List.getElem_of_mem he
 have hkO:k < O.length:=by rw[L.len];exact hk
 obtain⟨j,hj,ho⟩:=L.told.all O[k] (List.getElem_mem hkO)
 obtain⟨row,h1,h2⟩:=L.row (k:=k) (j:=j) (by rw[List.getElem?_eq_getElem hkO,ho]) hj
 rw[List.getElem?_eq_getElem hk] at h1
 injection h1 with h1
 have htos:=L.told.tos _ (List.getElem_mem hk)
 have h64:=(autoS_len h).1
 have hlen:=L.len
 rw[h1] at htos ⊢
 refine⟨fun x hx=> ?_,(edges_inv row).ord⟩
 obtain⟨e1,e2,e3,e4,e5⟩:=edgesS_to hx
 have:=htos x hx
 refine⟨e1,e2,e3,?_,by omega⟩
 obtain⟨f1,f2⟩:=h2 x.lo.toNat (by omega)
 by_cases hc:nxt C j x.lo.toNat < 0
 ·have hb:=L.W.bound L.hl hj (x:=x.lo.toNat) (by omega)
  rw[f1 hc] at e5
  omega
 ·obtain⟨k',g1,_⟩:=f2 (by omega)
  rw[g1] at e5
  omega
def rowP (r:List Int):PV:= .agg (r.map i64)
theorem chunk_rows {sz:Nat}:∀ {D:List (List PV)},(∀ r∈D,r.length=sz)→chunk sz true D.length D.flatten=D.map .agg
 | [],_=>rfl
 |r::D,h=>by
  have hr:=h r (by simp)
  rw[List.length_cons,chunk,if_pos rfl,List.flatten_cons,List.take_left' hr,List.drop_left' hr,chunk_rows fun x hx=>h x (by simp[hx])];rfl
theorem chunksI_rows:∀ {D:List (List Int)},(∀ r∈D,r.length=3)→chunksI 3 D.length D.flatten=D
 | [],_=>rfl
 |r::D,h=>by
  have hr:=h r (by simp)
  rw[List.length_cons,chunksI,List.flatten_cons,List.take_left' hr,List.drop_left' hr,chunksI_rows fun x hx=>h x (by simp[hx])]
def rowsD (ss:List Shp):List (List Int):=(sortI 3 0 (rowsI ss ss.length).toArray).toList
theorem rowsD_perm (ss:List Shp):(rowsD ss).Perm (rowsI ss ss.length):=(sortI_ok 3 0 (rowsI ss ss.length).toArray).2.1
theorem rowsD_row {ss:List Shp} {r:List Int} (h:r∈rowsD ss):r.length=3:=rowsI_row ((rowsD_perm ss).mem_iff.1 h)
theorem rowsD_len (ss:List Shp):(rowsD ss).length=ss.length:=by rw[(rowsD_perm ss).length_eq,rowsI_len]
structure TblIs (T:PV) (ss:List Shp) (l:List (List Edg)):Prop where
 ex:∃ S' NX DG RW,T= .rp [S',encSt l,NX,DG,RW,i64 (mostN ss)] 0∧IsL 2 S' (ss.map encShp)∧IsL 256 NX (l.map nextP)∧IsL 1 DG (ss.map fun s=>digP s.parts)∧IsL 3 RW ((rowsD ss).map rowP)
section
variable {S:PV} {ss:List Shp} {es:List PV} (hS:HeldSch S ss es)
include hS
end
end Go.AM.B1
namespace Go.AM.B1
open Go.AM Go.AM.So
theorem keep_cells (l:List Int) (n:Nat):(cellI l).all (AV.keep n deep)=true:=by
 rw[List.all_eq_true];intro x hx
 obtain⟨y,_,rfl⟩:=List.mem_map.1 hx
 rfl
theorem hpS_good {V S':PV} {y:Bool} {a b:Int} (nl:Bool) (ds:List PV) (D:List (List Int)) (fl:Nat) (nr:Bool) (m:Int):
 HGood (hpS (.box [.pv V]) (.box [.pv (.bool y),.pv (i64 a),.pv (i64 b)]) (.tok 256 0 true) (.pv S') (.pv V) (.uq 3 true 256 []) nl ds D fl nr m):=by
 intro n hn o ho
 have hn:6≤n:=hn
 simp only[hpS,List.mem_cons,List.not_mem_nil,or_false] at ho
 rcases ho with rfl | rfl | rfl | rfl | rfl | rfl
 ·exact boxP_cut n [V]
 ·exact boxP_cut n [.bool y,i64 a,i64 b]
 ·simp only[cutObj,mapO,cut_pv,cut_uq (show 3 < n by omega),cut_uq (show 4 < n by omega),cut_own (show 5 < n by omega),Option.bind_some,Option.map_some]
 ·rfl
 ·rfl
 ·simp only[cutObj,keep_cells,if_true]
theorem hpT_good {V S':PV} {y:Bool} {a b m:Int} {nl:Bool} {ds:List PV} {D:List (List Int)} {fl k:Nat} {nr:Bool} (nx:Bool) (es:List PV):
 HGood (hpT (.box [.pv V]) (.box [.pv (.bool y),.pv (i64 a),.pv (i64 b)]) (.tok 1 k nl) (.seq 3 true (cellI D.flatten) fl nr) (.pv S') (.pv V) (.uq 4 nl 1 ds) (.own 5 k) (.pv (i64 m)) nx es):=by
 intro n hn o ho
 have hn:6≤n:=hn
 simp only[hpT,List.mem_cons,List.not_mem_nil,or_false] at ho
 rcases ho with rfl | rfl | rfl | rfl | rfl | rfl
 ·exact boxP_cut n [V]
 ·exact boxP_cut n [.bool y,i64 a,i64 b]
 ·simp only[cutObj,mapO,cut_pv,cut_uq (show 3 < n by omega),cut_uq (show 4 < n by omega),cut_own (show 5 < n by omega),Option.bind_some,Option.map_some]
 ·rfl
 ·rfl
 ·simp only[cutObj,keep_cells,if_true]
theorem hpT_toPV {V S':PV} {o0 o1:AObj} {m:Int} {nl nr nx:Bool} {ds es:List PV} {D:List (List Int)} {fl k:Nat} (hk:D.length=k) (hD:∀ r∈D,r.length=3) (h1:nl=true→ds=[]) (h2:nr=true→D=[]) (h3:nx=true→es=[]):
 ∃ NX DG RW,toPV (hpT o0 o1 (.tok 1 k nl) (.seq 3 true (cellI D.flatten) fl nr) (.pv S') (.pv V) (.uq 4 nl 1 ds) (.own 5 k) (.pv (i64 m)) nx es) 5 (.ptr 2 0)=some (.rp [S',V,NX,DG,RW,i64 m] 0)∧
  IsL 256 NX es∧IsL 1 DG ds∧IsL 3 RW (D.map rowP):=by
 refine⟨if nx then .nils else .lit 256 es,if nl then .nils else .lit 1 ds,if nr then .nils else .lit 3 (D.map rowP),?_,?_,?_,?_⟩
 ·have hc:k * 3=(cellI D.flatten).length∧(true||(3:Nat)==1)=true:=⟨by rw[List.length_map,flat3_len hD,hk],rfl⟩
  have hm:mapO (toPV (hpT o0 o1 (.tok 1 k nl) (.seq 3 true (cellI D.flatten) fl nr) (.pv S') (.pv V) (.uq 4 nl 1 ds) (.own 5 k) (.pv (i64 m)) nx es) 3) (cellI D.flatten)=some (D.flatten.map i64):=by
   generalize hpT o0 o1 (.tok 1 k nl) (.seq 3 true (cellI D.flatten) fl nr) (.pv S') (.pv V) (.uq 4 nl 1 ds) (.own 5 k) (.pv (i64 m)) nx es=H
   generalize D.flatten=F
   induction F with
   |nil=>rfl
   |cons x F ih=>
    show mapO (toPV H 3) (.pv (i64 x)::cellI F)=_
    rw[mapO,ih];rfl
  have hch:chunk 3 true k (D.flatten.map i64)=D.map rowP:=by
   have:=chunk_rows (sz:=3) (D:=D.map fun r=>r.map i64) (by
    intro r hr
    obtain⟨q,hq,rfl⟩:=List.mem_map.1 hr
    rw[List.length_map,hD q hq])
   rw[List.length_map,List.map_map,←List.map_flatten,hk] at this
   exact this
  have h5:(hpT o0 o1 (.tok 1 k nl) (.seq 3 true (cellI D.flatten) fl nr) (.pv S') (.pv V) (.uq 4 nl 1 ds) (.own 5 k) (.pv (i64 m)) nx es)[5]? =some (.seq 3 true (cellI D.flatten) fl nr):=rfl
  have hb:(hpT o0 o1 (.tok 1 k nl) (.seq 3 true (cellI D.flatten) fl nr) (.pv S') (.pv V) (.uq 4 nl 1 ds) (.own 5 k) (.pv (i64 m)) nx es)[2]? =some (.box [.pv S',.pv V,.uq 3 nx 256 es,.uq 4 nl 1 ds,.own 5 k,.pv (i64 m)]):=rfl
  have ho:toPV (hpT o0 o1 (.tok 1 k nl) (.seq 3 true (cellI D.flatten) fl nr) (.pv S') (.pv V) (.uq 4 nl 1 ds) (.own 5 k) (.pv (i64 m)) nx es) 4 (.own 5 k)=some (if nr then .nils else .lit 3 (D.map rowP)):=by
   simp only[toPV,h5,if_pos hc,hm,Option.map_some,hch]
   cases nr <;> rfl
  generalize hpT o0 o1 (.tok 1 k nl) (.seq 3 true (cellI D.flatten) fl nr) (.pv S') (.pv V) (.uq 4 nl 1 ds) (.own 5 k) (.pv (i64 m)) nx es=H at *
  show (match H[2]? with | some (.box cells)=>(mapO (toPV H 4) cells).map fun ps=>PV.rp ps 0 | _=>none)=_
  rw[hb]
  have hv:∀ p:PV,toPV H 4 (.pv p)=some p:=fun p=>rfl
  have hu:∀ id nl sz es,toPV H 4 (.uq id nl sz es)=some (if nl then .nils else .lit sz es):=fun _ _ _ _=>rfl
  simp only[mapO,hv,hu,ho,Option.bind_some,Option.map_some]
 ·cases nx with
  |false=>exact .inr rfl
  |true=>exact .inl ⟨rfl,h3 rfl⟩
 ·cases nl with
  |false=>exact .inr rfl
  |true=>exact .inl ⟨rfl,h1 rfl⟩
 ·cases nr with
  |false=>exact .inr rfl
  |true=>exact .inl ⟨rfl,by rw[h2 rfl];rfl⟩
theorem row_sort {ss:List Shp} (h32:ss.length≤32) {H:List AObj} {fl:Nat} {nr:Bool} (hH:H[5]? =some (.seq 3 true (cellI (rowsI ss ss.length).flatten) fl nr)):
 callLS sortRow (fun _=>none) 8 34 [.own 5 ss.length,.clo 36 []] H=some (.pv (.tup []),H.set 5 (.seq 3 true (cellI (rowsD ss).flatten) (ss.length * 3) nr)):=by
 have e34:∀ (d:Nat) args H,callLS sortRow (fun _=>none) (d+1) 34 args H=sortA 3 0 36 args H:=fun d args H=>rfl
 rw[e34 7]
 have hl:(cellI (rowsI ss ss.length).flatten).length=ss.length * 3:=by rw[List.length_map,flat3_len fun r hr=>rowsI_row hr,rowsI_len]
 simp only[sortA,hH]
 rw[if_pos ⟨trivial,trivial,hl.symm,by omega⟩,intsA_cell,Option.map_some,hl]
 have:=chunksI_rows (D:=rowsI ss ss.length) fun r hr=>rowsI_row hr
 rw[rowsI_len] at this
 rw[this];rfl
theorem compile_ok {S:PV} {ss:List Shp} {es:List PV} (hS:HeldSch S ss es) (hok:SchOk ss) (hpre:PreOk ss) {l:List (List Edg)} (ha:autoS ss=some l) {a b:Int} (hi:F_clash_Inject [.agg [S]]=some (.tup [.agg [.bool true,i64 a,i64 b],i64 0])):
 ∃ T,F_table_Compile [.agg [S]]=some (.tup [T,i64 0])∧TblIs T ss l:=by
 have hS1:(AV.pv S).one=true:=by rcases hS.is with⟨h,_⟩ | h <;> rw[h] <;> rfl
 have hb:=(build_run hS).2.2.2 hok hpre l ha
 obtain⟨S',hcp,hS'⟩:=copy_run hS hok
 have hS'1:(AV.pv S').one=true:=by rcases hS' with⟨h,_⟩ | h <;> rw[h] <;> rfl
 have lS:=hS.lenA
 obtain⟨k64,k256⟩:=autoS_len ha
 have hst:=encSt_held k64 k256
 have hV1:(AV.pv (encSt l)).one=true:=rfl
 have hVl:IsL 1 (encSt l) (l.map encEs):= .inr rfl
 have lV:=hVl.len
 rw[List.length_map] at lV
 have heo:=edges_ok hok hpre ha
 obtain⟨V,hVe⟩:∃ V,V=encSt l:=⟨_,rfl⟩
 rw[← hVe] at hb hst hV1 hVl lV
 have st:storeA [.box [.pv .nils]] 1 (.ptr 0 0) (.pv (.agg [V]))=some [.box [.pv V]]:=by simp[storeA,AV.cells,PV.cells,hV1,setRow]
 have st2:storeA [.box [.pv V],.box [.pv (.bool false),.pv (i64 0),.pv (i64 0)]] 3 (.ptr 1 0) (.pv (.agg [.bool true,i64 a,i64 b]))=some [.box [.pv V],.box [.pv (.bool true),.pv (i64 a),.pv (i64 b)]]:=rfl
 have p2:∀ a b c d,place [a,.box [b,c,d]] 0 (.ptr 1 0)=some (.ptr 1 0):=fun a b c d=>rfl
 have l2:∀ a b c d,loadA [a,.box [b,c,d]] false 1 (.ptr 1 0)=some b:=fun a b c d=>rfl
 have l3:loadA [.box [.pv V],.box [.pv (.bool true),.pv (i64 a),.pv (i64 b)]] true 1 (.ptr 0 0)=some (.pv (.agg [V])):=rfl
 have z0:((0:Int)==0)=true:=rfl
 have z1:((0:Int) != 0)=false:=rfl
 have m1:setRow [AV.pv PV.nils,.pv .nils,.pv .nils,.pv .nils,.pv .nils,.pv (.int .i64 0)] 0 [AV.pv S']=[.pv S',.pv .nils,.pv .nils,.pv .nils,.pv .nils,.pv (.int .i64 0)]:=rfl
 have m2:setRow [AV.pv S',.pv .nils,.pv .nils,.pv .nils,.pv .nils,.pv (.int .i64 0)] 1 [AV.pv V]=[.pv S',.pv V,.pv .nils,.pv .nils,.pv .nils,.pv (.int .i64 0)]:=rfl
 have m3:allPV [AV.pv S',.pv V,.pv .nils,.pv .nils,.pv .nils,.pv (.int .i64 0)]=some [S',V,.nils,.nils,.nils,.int .i64 0]:=rfl
 have hz1:(0 < 256)=True:=by simp
 have hz2:(0 < 3)=True:=by simp
 have hz3:(0 < 1)=True:=by simp
 suffices key:wpO (fun r=>∃ T,r= .tup [T,i64 0]∧TblIs T ss l) (F_table_Compile [.agg [S]]) by
  obtain⟨r,h1,T,rfl,h2⟩:=wpO_spec key
  exact⟨T,h1,h2⟩
 generalize hQ:(fun r=>∃ T,r=PV.tup [T,i64 0]∧_)=Q
 simp (implicitDefEqProofs:=false) only[F_table_Compile,pureS.eq_1,SP,SA,WP,sevalprocAttr,-List.reduceReplicate,b_table_Compile,hS1,hV1,hS'1,rp1_loadA,rp1_load,rp1_place,hb,hi,st,st2,p2,l2,l3,z0,z1,hcp,m1,m2,m3,C_ghost,ghostA,hz1,hz2,hz3,lS]
 generalize hEE:(Tr.set _ 48 _:Tr)=E
 have q4:E.get 4= .ptr 0 0:=by rw[← hEE];simp[Tr.get_set]
 have q8:E.get 8= .ptr 2 0:=by rw[← hEE];simp[Tr.get_set]
 have q46:E.get 46= .pv S:=by rw[← hEE];simp[Tr.get_set]
 have q47:E.get 47= .pv (i64 ss.length):=by rw[← hEE];simp[Tr.get_set]
 have q48:E.get 48= .pv (i64 0):=by rw[← hEE];simp[Tr.get_set]
 refine wpO_mono (sh_loop (call:=callLS sortRow (fun _=>none) 8) (hpS_good (V:=V) (S':=S') (y:=true) (a:=a) (b:=b)) hS hok q4 q8 q46 q47 q48) ?_
 rintro r ⟨_,E2,nl,nr,rfl,g4,g8,hnl,hnr⟩
 have hdl:(ss.map fun s=>digP s.parts).length=ss.length:=by rw[List.length_map]
 have hrl:=rowsI_len ss ss.length
 have hDl:=rowsD_len ss
 have p5:∀ d,place (hpS (.box [.pv V]) (.box [.pv (.bool true),.pv (i64 a),.pv (i64 b)]) (.tok 256 0 true) (.pv S') (.pv V) (.uq 3 true 256 []) nl (ss.map fun s=>digP s.parts) (rowsI ss ss.length) 0 nr (mostN ss)) d (.ptr 2 0)=some (.ptr 2 (0+d)):=fun d=>box_place rfl d 0
 have l5:loadA (hpS (.box [.pv V]) (.box [.pv (.bool true),.pv (i64 a),.pv (i64 b)]) (.tok 256 0 true) (.pv S') (.pv V) (.uq 3 true 256 []) nl (ss.map fun s=>digP s.parts) (rowsI ss ss.length) 0 nr (mostN ss)) false 1 (.ptr 2 4)=some (.own 5 ss.length):=by
  rw[← hrl,rowsI_len]
  show some (AV.own 5 (rowsI ss ss.length).length)=_
  rw[hrl]
 have hsort:=row_sort hok.len (H:=hpS (.box [.pv V]) (.box [.pv (.bool true),.pv (i64 a),.pv (i64 b)]) (.tok 256 0 true) (.pv S') (.pv V) (.uq 3 true 256 []) nl (ss.map fun s=>digP s.parts) (rowsI ss ss.length) 0 nr (mostN ss)) rfl
 have hHT:(hpS (.box [.pv V]) (.box [.pv (.bool true),.pv (i64 a),.pv (i64 b)]) (.tok 256 0 true) (.pv S') (.pv V) (.uq 3 true 256 []) nl (ss.map fun s=>digP s.parts) (rowsI ss ss.length) 0 nr (mostN ss)).set 5 (.seq 3 true (cellI (rowsD ss).flatten) (ss.length * 3) nr)=hpT (.box [.pv V]) (.box [.pv (.bool true),.pv (i64 a),.pv (i64 b)]) (.tok 1 ss.length nl) (.seq 3 true (cellI (rowsD ss).flatten) (ss.length * 3) nr) (.pv S') (.pv V) (.uq 4 nl 1 (ss.map fun s=>digP s.parts)) (.own 5 ss.length) (.pv (i64 (mostN ss))) true []:=by
  unfold hpS hpT
  rw[hdl,hrl];rfl
 rw[hHT] at hsort
 have p6:∀ d,place (hpT (.box [.pv V]) (.box [.pv (.bool true),.pv (i64 a),.pv (i64 b)]) (.tok 1 ss.length nl) (.seq 3 true (cellI (rowsD ss).flatten) (ss.length * 3) nr) (.pv S') (.pv V) (.uq 4 nl 1 (ss.map fun s=>digP s.parts)) (.own 5 ss.length) (.pv (i64 (mostN ss))) true []) d (.ptr 0 0)=some (.ptr 0 (0+d)):=fun d=>box_place rfl d 0
 have l6:loadA (hpT (.box [.pv V]) (.box [.pv (.bool true),.pv (i64 a),.pv (i64 b)]) (.tok 1 ss.length nl) (.seq 3 true (cellI (rowsD ss).flatten) (ss.length * 3) nr) (.pv S') (.pv V) (.uq 4 nl 1 (ss.map fun s=>digP s.parts)) (.own 5 ss.length) (.pv (i64 (mostN ss))) true []) false 1 (.ptr 0 0)=some (.pv V):=rfl
 have hnx:=fun (E3:Tr) (r8:E3.get 8= .ptr 2 0) (r101:E3.get 101= .pv V) (r102:E3.get 102= .pv (i64 l.length)) (r103:E3.get 103= .pv (i64 0))=>
  nx_loop (call:=callLS sortRow (fun _=>none) 8) (hpT_good (V:=V) (S':=S') (y:=true) (a:=a) (b:=b) (m:=mostN ss) (nl:=nl) (ds:=ss.map fun s=>digP s.parts) (D:=rowsD ss) (fl:=ss.length * 3) (k:=ss.length) (nr:=nr)) hVl k64 k256 heo r8 r101 r102 r103
 obtain⟨NX,hNX⟩:∃ x,x=fun nx=>hpT (.box [.pv V]) (.box [.pv (.bool true),.pv (i64 a),.pv (i64 b)]) (.tok 1 ss.length nl) (.seq 3 true (cellI (rowsD ss).flatten) (ss.length * 3) nr) (.pv S') (.pv V) (.uq 4 nl 1 (ss.map fun s=>digP s.parts)) (.own 5 ss.length) (.pv (i64 (mostN ss))) nx (l.map nextP):=⟨_,rfl⟩
 have hnx':=hnx
 generalize hpS (.box [.pv V]) (.box [.pv (.bool true),.pv (i64 a),.pv (i64 b)]) (.tok 256 0 true) (.pv S') (.pv V) (.uq 3 true 256 []) nl (ss.map fun s=>digP s.parts) (rowsI ss ss.length) 0 nr (mostN ss)=HS at *
 simp (implicitDefEqProofs:=false) only[SP,SA,WP,sevalprocAttr,-List.reduceReplicate,g4,g8,p5,l5,hsort,p6,l6,lV]
 generalize hEE3:(Tr.set _ 103 _:Tr)=E3
 refine wpO_mono (hnx E3 (by rw[← hEE3];simp[Tr.get_set,g8]) (by rw[← hEE3];simp[Tr.get_set]) (by rw[← hEE3];simp[Tr.get_set]) (by rw[← hEE3];simp[Tr.get_set])) ?_
 rintro r ⟨_,E4,nx,rfl,r8,hx⟩
 obtain⟨NX,DG,RW,t1,t2,t3,t4⟩:=hpT_toPV (V:=V) (S':=S') (o0:= .box [.pv V]) (o1:= .box [.pv (.bool true),.pv (i64 a),.pv (i64 b)]) (m:=mostN ss) (nl:=nl) (nr:=nr) (nx:=nx) (ds:=ss.map fun s=>digP s.parts) (es:=l.map nextP) (D:=rowsD ss) (fl:=ss.length * 3) (k:=ss.length) hDl (fun r hr=>rowsD_row hr) (fun h=>by rw[hnl h];rfl) (fun h=>by have:=hDl;rw[hnr h] at this ⊢;exact List.eq_nil_of_length_eq_zero this) (fun h=>by rw[hx h];rfl)
 generalize hpT (.box [.pv V]) (.box [.pv (.bool true),.pv (i64 a),.pv (i64 b)]) (.tok 1 ss.length nl) (.seq 3 true (cellI (rowsD ss).flatten) (ss.length * 3) nr) (.pv S') (.pv V) (.uq 4 nl 1 (ss.map fun s=>digP s.parts)) (.own 5 ss.length) (.pv (i64 (mostN ss))) nx (l.map nextP)=HT at *
 have hm1:mkTup [AV.ptr 2 0,.pv (.int .i64 0)]= .tup [.ptr 2 0,.pv (.int .i64 0)]:=rfl
 have htp:toPV HT 6 (.tup [.ptr 2 0,.pv (.int .i64 0)])=some (.tup [.rp [S',V,NX,DG,RW,i64 (mostN ss)] 0,i64 0]):=by
  show (mapO (toPV HT 5) [AV.ptr 2 0,.pv (.int .i64 0)]).map PV.tup=_
  have hv:toPV HT 5 (.pv (.int .i64 0))=some (.int .i64 0):=rfl
  simp only[mapO,t1,hv,Option.bind_some,Option.map_some]
 simp (implicitDefEqProofs:=false) only[SP,SA,WP,sevalprocAttr,-List.reduceReplicate,r8,one1,hm1,htp]
 subst hQ
 exact⟨_,rfl,⟨S',NX,DG,RW,by rw[hVe],hS',t2,t3,t4⟩⟩
end Go.AM.B1
namespace Go.AM.B1
open Go.AM Go.AM.So
def colR (ls:List (List (Int×Int))) (i:Nat):List PV:=(List.range 258).map fun k=>colC ls (i * 258+k)
theorem rpP (H:List AObj) (d o:Nat) (row:List PV):place H d (.pv (.rp row o))=some (.pv (.rp row (o+d))):=rfl
theorem dig_iaddr {ls:List (List (Int×Int))} {i:Nat} (hi:i < ls.length) (H:List AObj):iaddrA' H 258 (.pv (.lit 258 ((List.range ls.length).map (colP ls)))) (i:Int)=some (.pv (.rp (colR ls i) 0)):=by
 simp only[iaddrA']
 rw[if_pos ⟨trivial,by unfold idxOk;simp;omega⟩,Int.toNat_natCast,List.getElem?_map,List.getElem?_range hi];rfl
theorem colR_get {ls:List (List (Int×Int))} {i k:Nat} (hk:k < 258) (H:List AObj):loadA H false 1 (.pv (.rp (colR ls i) k))=some (.pv (colC ls (i * 258+k))):=by
 have:(colR ls i)[k]? =some (colC ls (i * 258+k)):=by rw[colR,List.getElem?_map,List.getElem?_range hk];rfl
 simp only[loadA,partP,Bool.false_eq_true,if_false,this];rfl
theorem colR_0 {ls:List (List (Int×Int))} {i:Nat} (H:List AObj):loadA H false 1 (.pv (.rp (colR ls i) 0))=some (.pv (bytesP (ls.getD i []))):=by
 rw[colR_get (by omega),colC,if_pos (by omega),show (i * 258+0) / 258=i by omega]
theorem colR_s {ls:List (List (Int×Int))} {i:Nat} (H:List AObj):loadA H false 1 (.pv (.rp (colR ls i) 257))=some (.pv (i64 (prodS (ls.drop (i+1))))):=by
 rw[colR_get (by omega),colC,if_neg (by omega),if_pos (by omega),show (i * 258+257) / 258=i by omega]
theorem getD_at {ls:List (List (Int×Int))} {i:Nat} (hi:i < ls.length):ls.getD i []=ls[i]:=by rw[List.getD_eq_getElem?_getD,List.getElem?_eq_getElem hi];rfl
theorem mem_sel {l:List (Int×Int)} (h:PartOk l) {k x:Int} (h0:0≤k) (h1:k < sizeR 0 l) (hx:selR k l=some x):(memP l)[k.toNat]? =some x:=by
 obtain⟨y,q1,_,_,_,q5⟩:=selR_some h.2 h0 h1
 rw[hx] at q1;injection q1 with q1;subst q1
 have hr:=q5 0
 obtain⟨m,e1,e2⟩:=memP_of_rank (n:=0) h.2 (by rw[hr])
 rw[hr] at e2
 simp only at e2
 rw[show k.toNat=m by omega];exact e1
abbrev envDu (C:PV) (n i k:Int) (es:List PV):Tr:=((((Tr.lf.set 19 (.pv (i64 i))).set 18 (.pv (i64 n))).set 5 (.uq 0 false 1 es)).set 1 (.pv (i64 k))).set 0 (.pv (.rp [C] 0))
theorem dig_unrank_run {s:Shp} (hok:ShpOk s) {k:Int} (h0:0≤k) (h1:k < prodS s.parts):F_digits_Shape_Unrank [digP s.parts,i64 k]=some (.lit 1 ((unrankGo s.parts k).map (PV.int .u8))):=by
 have h8:=hok.hi
 have hpr:=hok.prod.2
 have hia:=fun {i:Nat} (hi:i < s.parts.length)=>dig_iaddr (ls:=s.parts) hi
 have hcl:((List.range s.parts.length).map (colP s.parts)).length=s.parts.length:=by simp
 have hdg:digP s.parts= .rp [.lit 258 ((List.range s.parts.length).map (colP s.parts))] 0:=rfl
 rw[hdg]
 generalize (List.range s.parts.length).map (colP s.parts)=C at *
 have hloop:wpO (fun r=>∃ E H,r=(.exit 0,⟨E,H⟩)∧E.get 5= .uq 0 false 1 ((unrankGo s.parts k).map (PV.int .u8)))
  (loopA (roundA (evalC (callL (fun _=>none) 8) b_digits_Shape_Unrank_l0) (clean 1 [0,1,5,18,19])) rounds ⟨envDu (.lit 258 C) s.parts.length 0 k [],[.tok 1 0 false]⟩):=by
  refine wpO_mono (loopN_wp (fun i t=>∃ j es,t=⟨envDu (.lit 258 C) s.parts.length i j (es.map (PV.int .u8)),[.tok 1 i false]⟩∧0≤j∧j < prodS (s.parts.drop i)∧es.length=i∧unrankGo s.parts k=es++unrankGo (s.parts.drop i) j)
   s.parts.length (by unfold rounds;omega) _ ⟨k,[],rfl,h0,h1,rfl,rfl⟩ ?_ ?_) (fun r h=>h.2)
  ·rintro i t hi ⟨j,es,rfl,hj0,hj1,hel,hs⟩
   have hpo:=hok.parts s.parts[i] (List.getElem_mem hi)
   have hd:s.parts.drop i=s.parts[i]::s.parts.drop (i+1):=List.drop_eq_getElem_cons hi
   rw[hd,prodS] at hj1
   rw[hd,unrankGo] at hs
   have hpos:=prodS_pos (ls:=s.parts.drop (i+1)) fun x hx=>hok.parts x (List.mem_of_mem_drop hx)
   have hle:=prodS_drop hok.parts (i+1)
   have hdv:=div_lt hj0 hpos hj1
   obtain⟨x,q3,q4,q5,_⟩:=selR_some hpo.2 hdv.1 hdv.2.1
   rw[q3,Option.getD_some] at hs
   have hm:=mem_sel hpo hdv.1 hdv.2.1 q3
   have hml:=getElem?_lt hm
   have hle2:=prodS_drop hok.parts i
   rw[hd,prodS] at hle2
   have t3:IntKind.i64.wrap (j.tdiv (prodS (s.parts.drop (i+1))))=j.tdiv (prodS (s.parts.drop (i+1))):=wrap_int (by
    have:=hdv.2.2.2.2
    have h5:j.tdiv (prodS (s.parts.drop (i+1))) * 1≤j.tdiv (prodS (s.parts.drop (i+1))) * prodS (s.parts.drop (i+1)):=Int.mul_le_mul_of_nonneg_left hpos hdv.1
    omega)
   have a1:=hia hi
   have a4:=colR_s (ls:=s.parts) (i:=i)
   have a5:=colR_0 (ls:=s.parts) (i:=i)
   rw[getD_at hi] at a5
   generalize colR s.parts i=R at *
   generalize s.parts[i]=l at *
   have a6:∀ H,iaddrA' H 1 (.pv (bytesP l)) (j.tdiv (prodS (s.parts.drop (i+1))))=some (.pv (.rp [.int .u8 x] 0)):=fun H=>by
    simp only[iaddrA',bytesP]
    rw[if_pos ⟨trivial,by unfold idxOk;rw[List.length_map];omega⟩,List.getElem?_map,hm];rfl
   have e1:decide ((i:Int) < (s.parts.length:Int))=true:=dec_t (by omega)
   have t2:=stepWrap hi (by unfold maxLen;omega)
   have z0:(prodS (s.parts.drop (i+1))=0)=False:=by simp;omega
   have hap:=byte_append (A:=[.tok 1 i false]) (id:=0) (n:=i) (h:= .uq) (nl:=false) (bytes:=1) (es:=es.map (PV.int .u8)) rfl (by simp[hel]) (by unfold roomOk;omega) (.int .u8 x)
   rw[List.set_cons_zero] at hap
   have hbm:(es++[x]).map (PV.int .u8)=es.map (PV.int .u8)++[.int .u8 x]:=by simp
   generalize hpq:prodS (s.parts.drop (i+1))=pr at *
   generalize hQ:LN _ _ i=QQ
   simp (implicitDefEqProofs:=false) only[SP,WP,setRow,sevalprocAttr,-List.reduceReplicate,b_digits_Shape_Unrank_l0,e1,t2,t3,z0,a1,a4,a5,a6,rpP,rp1_load,hap,clean,cutEnv,AV.cut,cutObj,deep_eq',envDu]
   subst hQ
   exact⟨_,es++[x],by rw[hbm],hdv.2.2.1,by rw[hpq];exact hdv.2.2.2.1,by simp[hel],by rw[hs];simp⟩
  ·rintro t ⟨j,es,rfl,hj0,hj1,hel,hs⟩
   rw[List.drop_length,unrankGo,List.append_nil] at hs
   have e1:decide ((s.parts.length:Int) < (s.parts.length:Int))=false:=dec_f (by omega)
   generalize hQ:(fun r:Ex×St=>r.1.stop=true∧_)=Q
   simp (implicitDefEqProofs:=false) only[SP,SA,WP,sevalprocAttr,-List.reduceReplicate,b_digits_Shape_Unrank_l0,e1,envDu]
   subst hQ
   exact⟨rfl,_,_,rfl,by rw[hs];simp[Tr.get_set]⟩
 obtain⟨r,g1,E,H,rfl,g6⟩:=wpO_spec hloop
 have g1':loopA (roundA (evalC (callL (fun _=>none) 8) b_digits_Shape_Unrank_l0) (clean 1 [0,1,5,18,19])) rounds ⟨((((Tr.lf.set 19 (.pv (.int .i64 0))).set 18 (.pv (i64 s.parts.length))).set 5 (.uq 0 false 1 [])).set 1 (.pv (i64 k))).set 0 (.pv (.rp [.lit 258 C] 0)),[.tok 1 0 false]⟩=some (.exit 0,⟨E,H⟩):=g1
 have e4:roomOk s.parts.length 1:=by unfold roomOk;omega
 have e2:(0≤(s.parts.length:Int))=True:=by simp
 have e5:((0:Int)≤0)=True:=by simp
 simp (implicitDefEqProofs:=false) only[F_digits_Shape_Unrank,SP,SA,WP,sevalprocAttr,-List.reduceReplicate,b_digits_Shape_Unrank,rpP,rp1_load,hcl,eq_true e4,e2,e5,C_loop,clean,cutEnv,AV.cut,cutObj,deep_eq',g1',g6,repZ,fresh,allPV,chunk]
end Go.AM.B1
namespace Go.AM.B1
open Go.AM Go.AM.So
theorem rp6_load (H:List AObj) (a b c d e f:PV):loadA H false 1 (.pv (.rp [a,b,c,d,e,f] 2))=some (.pv c)∧loadA H false 1 (.pv (.rp [a,b,c,d,e,f] 3))=some (.pv d)∧loadA H false 1 (.pv (.rp [a,b,c,d,e,f] 4))=some (.pv e)∧loadA H false 1 (.pv (.rp [a,b,c,d,e,f] 5))=some (.pv f)∧loadA H false 1 (.pv (.rp [a,b,c,d,e,f] 0))=some (.pv a)∧loadA H false 1 (.pv (.rp [a,b,c,d,e,f] 1))=some (.pv b)∧loadA H true 1 (.pv (.rp [a,b,c,d,e,f] 0))=some (.pv (.agg [a])):=⟨rfl,rfl,rfl,rfl,rfl,rfl,rfl⟩
section
variable {T:PV} {ss:List Shp} {l:List (List Edg)} (hT:TblIs T ss l) (ho:∀ e∈l,EdgesOk e)
include hT ho
end
end Go.AM.B1
namespace Go.AM.B1
open Go.AM Go.AM.So
def cmpI (a b:Int):Int:=if a < b then -1 else if a > b then 1 else 0
theorem cmp_int_run (a b:Int):F_cmp_Compare_int [i64 a,i64 b]=some (i64 (cmpI a b)):=by
 have hn:∀ x:Int,F_cmp_isNaN_int [i64 x]=some (.bool false):=fun x=>by
  have z:(x != x)=false:=by simp
  simp (implicitDefEqProofs:=false) only[F_cmp_isNaN_int,SP,SA,WP,sevalprocAttr,-List.reduceReplicate,b_cmp_isNaN_int,z]
 unfold cmpI
 by_cases h1:a < b
 ·have d1:decide (a < b)=true:=dec_t h1
  rw[if_pos h1]
  simp (implicitDefEqProofs:=false) only[F_cmp_Compare_int,SP,SA,WP,sevalprocAttr,-List.reduceReplicate,b_cmp_Compare_int,hn,d1]
 ·have d1:decide (a < b)=false:=dec_f h1
  rw[if_neg h1]
  by_cases h2:a > b
  ·have d2:decide (a > b)=true:=dec_t h2
   rw[if_pos h2]
   simp (implicitDefEqProofs:=false) only[F_cmp_Compare_int,SP,SA,WP,sevalprocAttr,-List.reduceReplicate,b_cmp_Compare_int,hn,d1,d2]
  ·have d2:decide (a > b)=false:=dec_f h2
   rw[if_neg h2]
   simp (implicitDefEqProofs:=false) only[F_cmp_Compare_int,SP,SA,WP,sevalprocAttr,-List.reduceReplicate,b_cmp_Compare_int,hn,d1,d2]
theorem row1_run (call:CallF) (a b c u:Int) (H:List AObj):runF call b_table_Table_row_1 [.pv (.agg [i64 a,i64 b,i64 c]),.pv (i64 u)] H=some (.pv (i64 (cmpI a u)),H):=by
 have hc:=cmp_int_run a u
 have l0:∀ H,loadA H false 1 (.pv (.rp [i64 a,i64 b,i64 c] 0))=some (.pv (i64 a)):=fun H=>rfl
 have l1:∀ H,place H 0 (.pv (.rp [i64 a,i64 b,i64 c] 0))=some (.pv (.rp [i64 a,i64 b,i64 c] 0)):=fun H=>rfl
 simp (implicitDefEqProofs:=false) only[SP,SA,WP,sevalprocAttr,-List.reduceReplicate,b_table_Table_row_1,l0,l1,hc]
def r0 (r:List Int):Int:=r.getD 0 0
def r1 (r:List Int):Int:=r.getD 1 0
def r2 (r:List Int):Int:=r.getD 2 0
theorem row3 {r:List Int} (h:r.length=3):r=[r0 r,r1 r,r2 r]:=by
 match r,h with
 | [a,b,c],_=>rfl
section
variable {RW:PV} {D:List (List Int)} (hR:IsL 3 RW (D.map rowP)) (hD:∀ r∈D,r.length=3)
include hR hD
theorem rw_iaddr {i:Nat} (hi:i < D.length) (H:List AObj):iaddrA' H 3 (.pv RW) (i:Int)=some (.pv (.rp [i64 (r0 D[i]),i64 (r1 D[i]),i64 (r2 D[i])] 0)):=by
 rw[hR.lit (i:=i) (by simpa using hi)]
 simp only[iaddrA']
 have h3:=row3 (hD _ (List.getElem_mem hi))
 rw[if_pos ⟨trivial,by unfold idxOk;rw[List.length_map];omega⟩,Int.toNat_natCast,List.getElem?_map,List.getElem?_eq_getElem hi,Option.map_some,Option.map_some]
 congr 4
 show (rowP D[i]).cells=_
 unfold rowP
 generalize D[i]=r at *
 match r,h3 with
 |r,h3=>rw[h3];rfl
variable (hs:∀ i j (h:i < j) (hj:j < D.length),r0 D[i]≤r0 D[j]) (hlen:D.length≤32)
include hs hlen
theorem bs_run {H:List AObj} (hH:HGood H) (u:Int):∃ i:Nat,i≤D.length∧(∀ k (hk:k < D.length),k < i→r0 D[k] < u)∧(∀ k (hk:k < D.length),i≤k→u≤r0 D[k])∧
 runF (callL t_table_Table_row 7) b_slices_BinarySearchFunc_api_Row_api_Row_int [.pv RW,.pv (i64 u),.clo 41 []] H=some (.pv (.tup [i64 i,.bool (if h:i < D.length then decide (r0 D[i]=u) else false)]),H):=by
 have lR:=hR.len
 rw[List.length_map] at lR
 have c41:t_table_Table_row 41=some b_table_Table_row_1:=rfl
 have r3:∀ H (x y z:PV),loadA H true 3 (.pv (.rp [x,y,z] 0))=some (.pv (.agg [x,y,z])):=fun H x y z=>rfl
 have hcl:∀ n,AV.cut n deep (.clo 41 [])=some (.clo 41 []):=fun n=>rfl
 have hloop:=fun (E:Tr) (h0:E.get 0= .pv RW) (h1:E.get 1= .pv (i64 u)) (h2:E.get 2= .clo 41 []) (h8:E.get 8= .pv (i64 D.length)) (h9:E.get 9= .pv (i64 0)) (h10:E.get 10= .pv (i64 D.length))=>
  loop_meas (call:=callL t_table_Table_row 7) (b:=b_slices_BinarySearchFunc_api_Row_api_Row_int_l0) (live:=[0,1,2,8,9,10]) (s:=⟨E,H⟩)
   (Q:=fun r=>∃ E' i,r=(.exit 0,⟨E',H⟩)∧Keep [0,1,2,8] E E'∧E'.get 9= .pv (i64 (i:Nat))∧i≤D.length∧(∀ k (hk:k < D.length),k < i→r0 D[k] < u)∧(∀ k (hk:k < D.length),i≤k→u≤r0 D[k]))
   (fun m t=>Keep [0,1,2,8] E t.env∧t.H=H∧∃ i j:Nat,t.env.get 9= .pv (i64 i)∧t.env.get 10= .pv (i64 j)∧i≤j∧j≤D.length∧m=j - i∧(∀ k (hk:k < D.length),k < i→r0 D[k] < u)∧(∀ k (hk:k < D.length),j≤k→u≤r0 D[k]))
   D.length (by unfold rounds;omega)
   (EndOf.all rfl (hH _ (Nat.le_refl _)) (Fit.cons h0 cut_pv (.cons h1 cut_pv (.cons h2 (hcl _) (.cons h8 cut_pv (.cons h9 cut_pv (.cons h10 cut_pv (.nil _ _))))))) fun E' hE=>⟨Keep.sub hE rfl,rfl,0,D.length,by rw[hE 9 (by simp),h9];rfl,by rw[hE 10 (by simp),h10],by omega,by omega,by omega,fun k _ h=>by omega,fun k hk h=>by omega⟩)
   (by
    rintro m ⟨E1,H1⟩ ⟨k1,k2,i,j,k9,k10,hij,hj,hm,ha,hb⟩
    simp only at k1 k2 k9 k10
    replace k2:=k2.symm
    subst k2
    by_cases hlt:i < j
    ·have e1:decide ((i:Int) < (j:Int))=true:=dec_t (by omega)
     have g0:=(k1 0 (by simp)).trans h0
     have g1:=(k1 1 (by simp)).trans h1
     have g2:=(k1 2 (by simp)).trans h2
     obtain⟨h,hh⟩:∃ h,h=(i+j) / 2:=⟨_,rfl⟩
     have hhD:h < D.length:=by omega
     have a1:=rw_iaddr hR hD hhD
     have hc:=row1_run (callL t_table_Table_row 6) (r0 D[h]) (r1 D[h]) (r2 D[h]) u H
     have w1:IntKind.i64.wrap ((i:Int)+(j:Int))=(i:Int)+j:=wrap_int (by omega)
     have w2:IntKind.u64.wrap ((i:Int)+(j:Int))=(i:Int)+j:=by
      unfold IntKind.wrap;simp[IntKind.signed,IntKind.bits];omega
     have w3:((i:Int)+(j:Int)).fdiv (2 ^ min 1 IntKind.u64.bits)=(h:Int):=by
      show ((i:Int)+(j:Int)).fdiv 2=_
      rw[Int.fdiv_eq_ediv_of_nonneg _ (by omega)];omega
     have w4:IntKind.i64.wrap (h:Int)=(h:Int):=wrap_int (by omega)
     have w5:IntKind.i64.wrap ((h:Int)+1)=((h+1:Nat):Int):=wrap_nat1 (by omega)
     have z0:((1:Int) < 0)=False:=by simp
     generalize hQ:RQ _ _ _ _=Q
     by_cases hcu:r0 D[h] < u
     ·have hcm:cmpI (r0 D[h]) u= -1:=by unfold cmpI;rw[if_pos hcu]
      have z1:decide ((-1:Int) < 0)=true:=rfl
      rw[hcm] at hc
      simp (implicitDefEqProofs:=false) only[SP,SA,WP,sevalprocAttr,-List.reduceReplicate,b_slices_BinarySearchFunc_api_Row_api_Row_int_l0,k9,k10,e1,g0,g1,g2,a1,r3,w1,w2,w3,w4,w5,z0,c41,hc,z1]
      subst hQ
      rw[RQ_norm]
      generalize hEE:(Tr.set _ 9 _:Tr)=E2
      have kk:Keep [0,1,2,8] E E2:=by
       rw[← hEE]
       repeat refine Keep.set ?_ rfl
       exact k1
      have z9:E2.get 9= .pv (i64 (h+1:Nat)):=by rw[← hEE];simp[Tr.get_set]
      have z10:E2.get 10= .pv (i64 j):=by rw[← hEE];simp[Tr.get_set,k10]
      exact EndOf.all rfl (hH _ (Nat.le_refl _)) (Fit.sub (.cons z9 cut_pv (.cons z10 cut_pv (Fit.keep (l:=[0,1,2,8]) (.cons h0 cut_pv (.cons h1 cut_pv (.cons h2 (hcl _) (.cons h8 cut_pv (.nil _ _))))) kk))) rfl) fun E' hE=>⟨j - (h+1),by omega,kk.trans (Keep.sub hE rfl),rfl,h+1,j,by rw[hE 9 (by simp),z9],by rw[hE 10 (by simp),z10],by omega,hj,rfl,fun k hk hkh=>by
       rcases Nat.lt_or_ge k h with h5 | h5
       ·exact Int.lt_of_le_of_lt (hs k h h5 hhD) hcu
       ·obtain rfl:k=h:=by omega
        exact hcu,hb⟩
     ·have z1:decide (cmpI (r0 D[h]) u < 0)=false:=dec_f (by unfold cmpI;rw[if_neg hcu];split <;> omega)
      simp (implicitDefEqProofs:=false) only[SP,SA,WP,sevalprocAttr,-List.reduceReplicate,b_slices_BinarySearchFunc_api_Row_api_Row_int_l0,k9,k10,e1,g0,g1,g2,a1,r3,w1,w2,w3,w4,w5,z0,c41,hc,z1]
      subst hQ
      rw[RQ_norm]
      generalize hEE:(Tr.set _ 10 _:Tr)=E2
      have kk:Keep [0,1,2,8] E E2:=by
       rw[← hEE]
       repeat refine Keep.set ?_ rfl
       exact k1
      have z9:E2.get 9= .pv (i64 i):=by rw[← hEE];simp[Tr.get_set,k9]
      have z10:E2.get 10= .pv (i64 h):=by rw[← hEE];simp[Tr.get_set]
      exact EndOf.all rfl (hH _ (Nat.le_refl _)) (Fit.sub (.cons z9 cut_pv (.cons z10 cut_pv (Fit.keep (l:=[0,1,2,8]) (.cons h0 cut_pv (.cons h1 cut_pv (.cons h2 (hcl _) (.cons h8 cut_pv (.nil _ _))))) kk))) rfl) fun E' hE=>⟨h - i,by omega,kk.trans (Keep.sub hE rfl),rfl,i,h,by rw[hE 9 (by simp),z9],by rw[hE 10 (by simp),z10],by omega,by omega,rfl,ha,fun k hk hkh=>by
       rcases Nat.lt_or_ge h k with h5 | h5
       ·exact Int.le_trans (Int.not_lt.1 hcu) (hs h k h5 hk)
       ·obtain rfl:k=h:=by omega
        omega⟩
    ·obtain rfl:i=j:=by omega
     have e1:decide ((i:Int) < (i:Int))=false:=dec_f (by omega)
     generalize hQ:RQ _ _ _ _=Q
     simp (implicitDefEqProofs:=false) only[SP,SA,WP,sevalprocAttr,-List.reduceReplicate,b_slices_BinarySearchFunc_api_Row_api_Row_int_l0,k9,k10,e1]
     subst hQ
     exact⟨_,i,rfl,by repeat refine Keep.set ?_ rfl
                      exact k1,by simp[Tr.get_set,k9],hj,ha,hb⟩)
 have key:wpO (fun r=>∃ i:Nat,i≤D.length∧(∀ k (hk:k < D.length),k < i→r0 D[k] < u)∧(∀ k (hk:k < D.length),i≤k→u≤r0 D[k])∧r=(.pv (.tup [i64 i,.bool (if h:i < D.length then decide (r0 D[i]=u) else false)]),H)) (runF (callL t_table_Table_row 7) b_slices_BinarySearchFunc_api_Row_api_Row_int [.pv RW,.pv (i64 u),.clo 41 []] H):=by
  generalize hQ:(fun r:AV×List AObj=>∃ i:Nat,_)=Q
  simp (implicitDefEqProofs:=false) only[SP,SA,WP,sevalprocAttr,-List.reduceReplicate,b_slices_BinarySearchFunc_api_Row_api_Row_int,lR]
  generalize hEE:(Tr.set _ 10 _:Tr)=E
  refine wpO_mono (hloop E (by rw[← hEE];simp[Tr.get_set]) (by rw[← hEE];simp[Tr.get_set]) (by rw[← hEE];simp[Tr.get_set]) (by rw[← hEE];simp[Tr.get_set]) (by rw[← hEE];simp[Tr.get_set]) (by rw[← hEE];simp[Tr.get_set])) ?_
  have h0:E.get 0= .pv RW:=by rw[← hEE];simp[Tr.get_set]
  have h1:E.get 1= .pv (i64 u):=by rw[← hEE];simp[Tr.get_set]
  have h2:E.get 2= .clo 41 []:=by rw[← hEE];simp[Tr.get_set]
  have h8:E.get 8= .pv (i64 D.length):=by rw[← hEE];simp[Tr.get_set]
  rintro r ⟨_,E',i,rfl,k1,k9,hi,ha,hb⟩
  have g0:=(k1 0 (by simp)).trans h0
  have g1:=(k1 1 (by simp)).trans h1
  have g2:=(k1 2 (by simp)).trans h2
  have g8:=(k1 8 (by simp)).trans h8
  by_cases hlt:i < D.length
  ·have e1:decide ((i:Int) < (D.length:Int))=true:=dec_t (by omega)
   have a1:=rw_iaddr hR hD hlt
   have hc:=row1_run (callL t_table_Table_row 6) (r0 D[i]) (r1 D[i]) (r2 D[i]) u H
   have hge:=hb i hlt (Nat.le_refl _)
   have z:(cmpI (r0 D[i]) u==0)=decide (r0 D[i]=u):=by
    unfold cmpI
    rw[if_neg (by omega)]
    by_cases h5:r0 D[i] > u
    ·rw[if_pos h5,dec_f (by omega)];rfl
    ·rw[if_neg h5,dec_t (by omega)];rfl
   simp (implicitDefEqProofs:=false) only[SP,SA,WP,sevalprocAttr,-List.reduceReplicate,k9,g0,g1,g2,g8,e1,a1,r3,c41,hc,z]
   subst hQ
   exact⟨i,hi,ha,hb,by rw[dif_pos hlt]⟩
  ·have e1:decide ((i:Int) < (D.length:Int))=false:=dec_f (by omega)
   simp (implicitDefEqProofs:=false) only[SP,SA,WP,sevalprocAttr,-List.reduceReplicate,k9,g0,g1,g2,g8,e1]
   subst hQ
   exact⟨i,hi,ha,hb,by rw[dif_neg hlt]⟩
 obtain⟨r,h1,i,h2,h3,h4,rfl⟩:=wpO_spec key
 exact⟨i,h2,h3,h4,h1⟩
end
theorem rowsI_mem {ss:List Shp} {r:List Int} (h:r∈rowsD ss):∃ j,∃ hj:j < ss.length,r=rowI ss[j] j:=by
 have:=(rowsD_perm ss).mem_iff.1 h
 unfold rowsI at this
 obtain⟨j,hj,rfl⟩:=List.mem_map.1 this
 have hj:=List.mem_range.1 hj
 exact⟨j,hj,by rw[List.getD_eq_getElem?_getD,List.getElem?_eq_getElem hj];rfl⟩
theorem rowsI_has {ss:List Shp} {j:Nat} (hj:j < ss.length):rowI ss[j] j∈rowsD ss:=by
 refine (rowsD_perm ss).mem_iff.2 ?_
 unfold rowsI
 refine List.mem_map.2 ⟨j,List.mem_range.2 hj,?_⟩
 rw[List.getD_eq_getElem?_getD,List.getElem?_eq_getElem hj];rfl
theorem rowsD_sorted (ss:List Shp) (i j:Nat) (h:i < j) (hj:j < (rowsD ss).length):r0 (rowsD ss)[i]≤r0 (rowsD ss)[j]:=by
 obtain⟨h1,h2,h3⟩:=sortI_ok 3 0 (rowsI ss ss.length).toArray
 have hj':j < (rowsI ss ss.length).toArray.size:=by rw[← h1];simpa[rowsD] using hj
 have h4:=h3 i j h hj'
 have key:∀ k (hk:k < (rowsD ss).length),keyI 3 0 (sortI 3 0 (rowsI ss ss.length).toArray)[k]! =r0 (rowsD ss)[k]:=by
  intro k hk
  have hk':k < (sortI 3 0 (rowsI ss ss.length).toArray).size:=by simpa[rowsD] using hk
  rw[getElem!_pos _ k hk']
  have e:(sortI 3 0 (rowsI ss ss.length).toArray)[k]=(rowsD ss)[k]:=by simp[rowsD]
  have h3:=rowsD_row (List.getElem_mem hk)
  rw[e]
  generalize (rowsD ss)[k]=r at *
  unfold keyI r0
  rw[if_pos h3]
 rw[key i (by omega),key j hj] at h4
 omega
theorem rowsD_nodup (ss:List Shp):(rowsD ss).Nodup:=by
 refine (rowsD_perm ss).nodup_iff.2 ?_
 unfold rowsI List.Nodup
 rw[List.pairwise_map]
 refine List.Pairwise.imp ?_ (List.nodup_range (n:=ss.length))
 intro i j h e
 unfold rowI at e
 injection e with _ e
 injection e with _ e
 injection e with e _
 omega
def has (s:Shp) (u:Int):Prop:=s.first≤u∧u < s.first+prodS s.parts
theorem has_one {ss:List Shp} (hok:SchOk ss) {i j:Nat} (hi:i < ss.length) (hj:j < ss.length) {u:Int} (h1:has ss[i] u) (h2:has ss[j] u):i=j:=by
 have hap:=hok.apart
 rw[List.pairwise_iff_getElem] at hap
 have e1:=(hok.shp _ (List.getElem_mem hi)).lastS
 have e2:=(hok.shp _ (List.getElem_mem hj)).lastS
 unfold has at h1 h2
 rcases Nat.lt_trichotomy i j with h | h | h
 ·exact absurd (hap i j hi hj h u) (fun hn=>hn ⟨by omega,by omega⟩)
 ·exact h
 ·exact absurd (hap j i hj hi h u) (fun hn=>hn ⟨by omega,by omega⟩)
section
variable {T:PV} {ss:List Shp} {l:List (List Edg)} (hT:TblIs T ss l) (hok:SchOk ss)
include hT hok
theorem trow_run (u:Int):(∃ j,∃ hj:j < ss.length,has ss[j] u∧F_table_Table_row [T,i64 u]=some (.tup [.agg [i64 ss[j].first,i64 (ss[j].first+prodS ss[j].parts - 1),i64 j],.bool true]))∨
 ((∀ s∈ss,¬has s u)∧F_table_Table_row [T,i64 u]=some (.tup [.agg [i64 0,i64 0,i64 0],.bool false])):=by
 obtain⟨S',NX,DG,RW,rfl,_,_,_,hRW⟩:=hT.ex
 have hrp:=rp6_load (a:=S') (b:=encSt l) (c:=NX) (d:=DG) (e:=RW) (f:=i64 (mostN ss))
 have l4:=fun H=>(hrp H).2.2.1
 generalize ([S',encSt l,NX,DG,RW,i64 (mostN ss)]:List PV)=R at *
 obtain⟨D,hRW,hDr,hDm,hDh,hDl,hDs,hnd⟩:∃ D:List (List Int),IsL 3 RW (D.map rowP)∧(∀ r∈D,r.length=3)∧(∀ r∈D,∃ j,∃ hj:j < ss.length,r=rowI ss[j] j)∧(∀ j (hj:j < ss.length),rowI ss[j] j∈D)∧D.length=ss.length∧(∀ i j (h:i < j) (hj:j < D.length),r0 D[i]≤r0 D[j])∧D.Nodup:=
  ⟨rowsD ss,hRW,fun r hr=>rowsD_row hr,fun r hr=>rowsI_mem hr,fun j hj=>rowsI_has hj,rowsD_len ss,rowsD_sorted ss,rowsD_nodup ss⟩
 have h32:=hok.len
 have hg:HGood [AObj.box [.pv (i64 0),.pv (i64 0),.pv (i64 0)]]:=fun n _ o ho=>by
  rw[List.mem_singleton] at ho;subst ho;exact boxP_cut n [i64 0,i64 0,i64 0]
 obtain⟨i,hi,ha,hb,hrun⟩:=bs_run hRW hDr hDs (by omega) hg u
 have c40:t_table_Table_row 40=some b_slices_BinarySearchFunc_api_Row_api_Row_int:=rfl
 have b0:∀ a b c d e f,storeA [AObj.box [.pv a,.pv b,.pv c]] 3 (.ptr 0 0) (.pv (.agg [.int .i64 d,.int .i64 e,.int .i64 f]))=some [.box [.pv (i64 d),.pv (i64 e),.pv (i64 f)]]:=fun a b c d e f=>rfl
 have ld:∀ a b c,loadA [AObj.box [.pv a,.pv b,.pv c]] true 3 (.ptr 0 0)=some (.pv (.agg [a,b,c])):=fun a b c=>rfl
 have r3:∀ H (x y z:PV),loadA H true 3 (.pv (.rp [x,y,z] 0))=some (.pv (.agg [x,y,z])):=fun H x y z=>rfl
 have r31:∀ H (x y z:PV),loadA H false 1 (.pv (.rp [x,y,z] 1))=some (.pv y):=fun H x y z=>rfl
 have fin:∀ k (hk:k < D.length),(∀ m (hm:m < D.length),k < m→u < r0 D[m])→r0 D[k]≤u→
  ((u≤r1 D[k]→∃ j,∃ hj:j < ss.length,has ss[j] u∧PV.agg [i64 (r0 D[k]),i64 (r1 D[k]),i64 (r2 D[k])]= .agg [i64 ss[j].first,i64 (ss[j].first+prodS ss[j].parts - 1),i64 j])∧(¬ u≤r1 D[k]→∀ s∈ss,¬has s u)):=by
  intro k hk hgt hle
  obtain⟨j',hj',hr'⟩:=hDm _ (List.getElem_mem hk)
  constructor
  ·intro h1
   rw[hr'] at h1 hle ⊢
   refine⟨j',hj',⟨hle,?_⟩,rfl⟩
   have:u≤ss[j'].first+prodS ss[j'].parts - 1:=h1
   omega
  ·intro h1 s hs hh
   obtain⟨j,hj,rfl⟩:=List.getElem_of_mem hs
   obtain⟨m,hm,hmr⟩:=List.getElem_of_mem (hDh j hj)
   have hh':=hh
   unfold has at hh'
   have hp:=prodS_pos (hok.shp _ (List.getElem_mem hj')).parts
   rcases Nat.lt_or_ge k m with h | h
   ·have:=hgt m hm h
    rw[hmr] at this
    have:u < ss[j].first:=this
    omega
   ·have h3:r0 D[m]≤r0 D[k]:=by
     rcases Nat.lt_or_ge m k with h5 | h5
     ·exact hDs m k h5 hk
     ·have:m=k:=by omega
      subst this;exact Int.le_refl _
    rw[hmr] at h3
    rw[hr'] at h3 hle h1
    have h3:ss[j].first≤ss[j'].first:=h3
    have hle:ss[j'].first≤u:=hle
    have e:j=j':=has_one hok hj hj' (u:=ss[j'].first) ⟨h3,by omega⟩ ⟨Int.le_refl _,by omega⟩
    subst e
    have:¬u≤ss[j].first+prodS ss[j].parts - 1:=h1
    omega
 have step:∀ (k:Nat) (hk:k < D.length),(∀ q (hq:q < D.length),k < q→u < r0 D[q])→r0 D[k]≤u→∀ R0:PV,
  (u≤r1 D[k]→R0= .tup [.agg [i64 (r0 D[k]),i64 (r1 D[k]),i64 (r2 D[k])],.bool true])→(¬ u≤r1 D[k]→R0= .tup [.agg [i64 0,i64 0,i64 0],.bool false])→
  (∃ j,∃ hj:j < ss.length,has ss[j] u∧R0= .tup [.agg [i64 ss[j].first,i64 (ss[j].first+prodS ss[j].parts - 1),i64 j],.bool true])∨((∀ s∈ss,¬has s u)∧R0= .tup [.agg [i64 0,i64 0,i64 0],.bool false]):=by
  intro k hk h1 h2 R0 h3 h4
  obtain⟨f1,f2⟩:=fin k hk h1 h2
  by_cases hc:u≤r1 D[k]
  ·obtain⟨j,hj,g1,g2⟩:=f1 hc
   exact .inl ⟨j,hj,g1,by rw[h3 hc,g2]⟩
  ·exact .inr ⟨f2 hc,h4 hc⟩
 suffices key:∃ R0,F_table_Table_row [.rp R 0,i64 u]=some R0∧((∃ j,∃ hj:j < ss.length,has ss[j] u∧R0= .tup [.agg [i64 ss[j].first,i64 (ss[j].first+prodS ss[j].parts - 1),i64 j],.bool true])∨((∀ s∈ss,¬has s u)∧R0= .tup [.agg [i64 0,i64 0,i64 0],.bool false])) by
  obtain⟨R0,k1,⟨j,hj,k2,rfl⟩ | ⟨k2,rfl⟩⟩:=key
  ·exact .inl ⟨j,hj,k2,k1⟩
  ·exact .inr ⟨k2,k1⟩
 by_cases his:∃ h:i < D.length,r0 D[i]=u
 ·obtain⟨h,he⟩:=his
  rw[dif_pos h,dec_t he] at hrun
  have hgt:∀ q (hq:q < D.length),i < q→u < r0 D[q]:=by
   intro q hq hiq
   have h3:=hDs i q hiq hq
   rcases Int.lt_or_le u (r0 D[q]) with h5 | h5
   ·exact h5
   ·exfalso
    obtain⟨j,hj,hr⟩:=hDm _ (List.getElem_mem h)
    obtain⟨j',hj',hr'⟩:=hDm _ (List.getElem_mem hq)
    have hp:=prodS_pos (hok.shp _ (List.getElem_mem hj)).parts
    have hp':=prodS_pos (hok.shp _ (List.getElem_mem hj')).parts
    have e1:ss[j].first=u:=by rw[hr] at he;exact he
    have e2:ss[j'].first≤u:=by rw[hr'] at h5;exact h5
    have e3:u≤ss[j'].first:=by rw[hr',he] at h3;exact h3
    have:j=j':=has_one hok hj hj' (u:=u) ⟨by omega,by omega⟩ ⟨by omega,by omega⟩
    subst this
    have:=(List.getElem_inj hnd).1 (hr.trans hr'.symm)
    omega
  have a1:=rw_iaddr hRW hDr h
  have z1:decide ((i:Int) < 0)=false:=dec_f (by omega)
  refine⟨_,?_,step i h hgt (by omega) (if u≤r1 D[i] then .tup [.agg [i64 (r0 D[i]),i64 (r1 D[i]),i64 (r2 D[i])],.bool true] else .tup [.agg [i64 0,i64 0,i64 0],.bool false]) (fun h=>by rw[if_pos h]) (fun h=>by rw[if_neg h])⟩
  by_cases hc:u≤r1 D[i]
  ·have z2:decide (u > r1 D[i])=false:=dec_f (by omega)
   rw[if_pos hc]
   simp (implicitDefEqProofs:=false) only[F_table_Table_row,SP,SA,WP,sevalprocAttr,-List.reduceReplicate,b_table_Table_row,eqA,rpP,l4,c40,hrun,z1,a1,z2,r31,r3,b0,ld]
  ·have z2:decide (u > r1 D[i])=true:=dec_t (by omega)
   rw[if_neg hc]
   simp (implicitDefEqProofs:=false) only[F_table_Table_row,SP,SA,WP,sevalprocAttr,-List.reduceReplicate,b_table_Table_row,eqA,rpP,l4,c40,hrun,z1,a1,z2,r31,r3,b0,ld]
 ·have hf:(if h:i < D.length then decide (r0 D[i]=u) else false)=false:=by
   by_cases h:i < D.length
   ·rw[dif_pos h];exact dec_f fun e=>his ⟨h,e⟩
   ·rw[dif_neg h]
  rw[hf] at hrun
  have w1:IntKind.i64.wrap ((i:Int) - 1)=(i:Int) - 1:=wrap_int (by omega)
  cases i with
  |zero=>
   have z1:decide ((-1:Int) < 0)=true:=rfl
   have w1:IntKind.i64.wrap (-1)= -1:=wrap_int (by decide)
   have hrun:runF (callL t_table_Table_row 7) b_slices_BinarySearchFunc_api_Row_api_Row_int [.pv RW,.pv (i64 u),.clo 41 []] [.box [.pv (i64 0),.pv (i64 0),.pv (i64 0)]]=some (.pv (.tup [i64 0,.bool false]),[.box [.pv (i64 0),.pv (i64 0),.pv (i64 0)]]):=hrun
   refine⟨.tup [.agg [i64 0,i64 0,i64 0],.bool false],?_,.inr ⟨fun s hs hh=> ?_,rfl⟩⟩
   ·simp (implicitDefEqProofs:=false) only[F_table_Table_row,SP,SA,WP,sevalprocAttr,-List.reduceReplicate,b_table_Table_row,eqA,rpP,l4,c40,hrun,w1,z1,b0,ld]
   ·obtain⟨j,hj,rfl⟩:=List.getElem_of_mem hs
    obtain⟨m,hm,hmr⟩:=List.getElem_of_mem (hDh j hj)
    have h6:=hb m hm (Nat.zero_le _)
    have hne:r0 D[m]≠u:=by
     intro e
     have h7:=hb 0 (by omega) (Nat.le_refl _)
     have h8:r0 D[0]≤r0 D[m]:=by
      rcases Nat.eq_zero_or_pos m with h9 | h9
      ·subst h9;exact Int.le_refl _
      ·exact hDs 0 m h9 hm
     exact his ⟨by omega,by omega⟩
    rw[hmr] at h6 hne
    have h6:u≤ss[j].first:=h6
    have hne:ss[j].first≠u:=hne
    unfold has at hh;omega
  |succ i=>
   have h:i < D.length:=by omega
   have w2:((i+1:Nat):Int) - 1=(i:Int):=by omega
   rw[w2] at w1
   have z1:decide ((i:Int) < 0)=false:=dec_f (by omega)
   have a1:=rw_iaddr hRW hDr h
   have hlt:=ha i h (by omega)
   have hgt:∀ q (hq:q < D.length),i < q→u < r0 D[q]:=by
    intro q hq hiq
    have h6:=hb q hq (by omega)
    rcases Int.lt_or_le u (r0 D[q]) with h5 | h5
    ·exact h5
    ·exfalso
     have h7:=hb (i+1) (by omega) (Nat.le_refl _)
     have h8:r0 D[i+1]≤r0 D[q]:=by
      rcases Nat.lt_or_ge (i+1) q with h9 | h9
      ·exact hDs (i+1) q h9 hq
      ·have:i+1=q:=by omega
       subst this;exact Int.le_refl _
     exact his ⟨by omega,by omega⟩
   refine⟨_,?_,step i h hgt (by omega) (if u≤r1 D[i] then .tup [.agg [i64 (r0 D[i]),i64 (r1 D[i]),i64 (r2 D[i])],.bool true] else .tup [.agg [i64 0,i64 0,i64 0],.bool false]) (fun h=>by rw[if_pos h]) (fun h=>by rw[if_neg h])⟩
   by_cases hc:u≤r1 D[i]
   ·have z2:decide (u > r1 D[i])=false:=dec_f (by omega)
    rw[if_pos hc]
    simp (implicitDefEqProofs:=false) only[F_table_Table_row,SP,SA,WP,sevalprocAttr,-List.reduceReplicate,b_table_Table_row,eqA,rpP,l4,c40,hrun,w1,w2,z1,a1,z2,r31,r3,b0,ld]
   ·have z2:decide (u > r1 D[i])=true:=dec_t (by omega)
    rw[if_neg hc]
    simp (implicitDefEqProofs:=false) only[F_table_Table_row,SP,SA,WP,sevalprocAttr,-List.reduceReplicate,b_table_Table_row,eqA,rpP,l4,c40,hrun,w1,w2,z1,a1,z2,r31,r3,b0,ld]
end
end Go.AM.B1
namespace Go.AM.B1
open Go.AM Go.AM.So
def cdS (u:Int):List Shp→Option (List Int)
 | []=>none
 |s::r=>if s.first≤u∧u < s.first+prodS s.parts then some (unrankGo s.parts (u - s.first)) else cdS u r
theorem cdS_some {u:Int}:∀ {ss:List Shp} {b:List Int},(∀ s∈ss,ShpOk s)→cdS u ss=some b→∃ s∈ss,s.first≤u∧u < s.first+prodS s.parts∧b=unrankGo s.parts (u - s.first)∧rankS s b=some (u - s.first)∧(∀ x∈b,0≤x∧x≤255)∧b≠[]
 |s::r,b,h,he=>by
  rw[cdS] at he
  split at he
  ·next hc=>
   injection he with he;subst he
   have hs:=h s (by simp)
   obtain⟨h1,h2,h3⟩:=unrank_rank s.parts (u - s.first) 0 hs.parts (by omega) (by omega)
   refine⟨s,by simp,hc.1,hc.2,rfl,?_,h3,?_⟩
   ·unfold rankS;rw[if_pos h2,h1,Int.zero_add]
   ·intro h4;rw[h4] at h2;have:=hs.lo;simp at h2;omega
  ·obtain⟨s',h1,h2⟩:=cdS_some (fun x hx=>h x (by simp[hx])) he
   exact⟨s',by simp[h1],h2⟩
end Go.AM.B1
namespace Go.AM.B1
open Go.AM Go.AM.So
theorem cdS_has {u:Int}:∀ {ss:List Shp},(∀ s∈ss,¬has s u)→cdS u ss=none
 | [],_=>rfl
 |s::ss,h=>by
  have h1:=h s (by simp)
  unfold has at h1
  rw[cdS,if_neg h1]
  exact cdS_has fun x hx=>h x (by simp[hx])
theorem cdS_at {u:Int} {ss:List Shp} (hok:SchOk ss) {j:Nat} (hj:j < ss.length) (h:has ss[j] u):cdS u ss=some (unrankGo ss[j].parts (u - ss[j].first)):=by
 have key:∀ (l:List Shp) (j:Nat) (hj:j < l.length),(∀ i (hi:i < l.length),has l[i] u→i=j)→has l[j] u→cdS u l=some (unrankGo l[j].parts (u - l[j].first)):=by
  intro l
  induction l with
  |nil=>intro j hj;simp at hj
  |cons s l ih=>
   intro j hj hone hh
   rw[cdS]
   cases j with
   |zero=>rw[if_pos (show s.first≤u∧u < s.first+prodS s.parts from hh)];rfl
   |succ j=>
    rw[if_neg (fun hc:s.first≤u∧u < s.first+prodS s.parts=>by have:=hone 0 (by simp) hc;omega)]
    exact ih j (by simpa using hj) (fun i hi hx=>by have:=hone (i+1) (by simpa using hi) hx;omega) hh
 exact key ss j hj (fun i hi hx=>has_one hok hi hj hx h) h
section
variable {T:PV} {ss:List Shp} {l:List (List Edg)} (hT:TblIs T ss l) (hok:SchOk ss)
include hT hok
theorem tenc_run (u:Int):F_table_Table_Encode [T,i64 u]=some (match cdS u ss with | some b=> .tup [.lit 1 (b.map u8),.bool true] | none=> .tup [.nils,.bool false]):=by
 have hrow:=trow_run hT hok u
 obtain⟨S',NX,DG,RW,rfl,_,_,hDG,_⟩:=hT.ex
 have hrp:=rp6_load (a:=S') (b:=encSt l) (c:=NX) (d:=DG) (e:=RW) (f:=i64 (mostN ss))
 have l3:=fun H=>(hrp H).2.1
 generalize ([S',encSt l,NX,DG,RW,i64 (mostN ss)]:List PV)=R at *
 have st:∀ a b c,storeA [AObj.box [.pv (i64 0),.pv (i64 0),.pv (i64 0)]] 3 (.ptr 0 0) (.pv (.agg [i64 a,i64 b,i64 c]))=some [.box [.pv (i64 a),.pv (i64 b),.pv (i64 c)]]:=fun a b c=>rfl
 rcases hrow with⟨j,hj,hh,hr⟩ | ⟨hn,hr⟩
 ·rw[cdS_at hok hj hh]
  have hs:=hok.shp _ (List.getElem_mem hj)
  have hh':=hh
  unfold has at hh'
  have hun:=dig_unrank_run hs (k:=u - ss[j].first) (by omega) (by omega)
  have hf0:=hs.f0
  have hl:=hs.lastS
  have hl2:=hs.last
  have a1:∀ H,iaddrA' H 1 (.pv DG) (j:Int)=some (.pv (.rp [digP ss[j].parts] 0)):=fun H=>by
   rw[hDG.lit (i:=j) (by simpa using hj)]
   simp only[iaddrA']
   rw[if_pos ⟨trivial,by unfold idxOk;rw[List.length_map];omega⟩,Int.toNat_natCast,List.getElem?_map,List.getElem?_eq_getElem hj];rfl
  generalize ss[j]=s at *
  have w1:IntKind.i64.wrap (u - s.first)=u - s.first:=wrap_int (by omega)
  have p0:∀ a b c d,place [AObj.box [.pv a,.pv b,.pv c]] d (.ptr 0 0)=some (.ptr 0 (0+d)):=fun a b c d=>rfl
  have q2:∀ a b c,loadA [AObj.box [.pv a,.pv b,.pv c]] false 1 (.ptr 0 2)=some (.pv c):=fun a b c=>rfl
  have q0:∀ a b c,loadA [AObj.box [.pv a,.pv b,.pv c]] false 1 (.ptr 0 0)=some (.pv a):=fun a b c=>rfl
  simp (implicitDefEqProofs:=false) only[F_table_Table_Encode,SP,SA,WP,sevalprocAttr,-List.reduceReplicate,b_table_Table_Encode,hr,st,rpP,l3,p0,q2,q0,a1,rp1_load,w1,hun]
 ·rw[cdS_has hn]
  simp (implicitDefEqProofs:=false) only[F_table_Table_Encode,SP,SA,WP,sevalprocAttr,-List.reduceReplicate,b_table_Table_Encode,hr,st]
end
end Go.AM.B1
namespace Go.AM.B1
open Go.AM
end Go.AM.B1
