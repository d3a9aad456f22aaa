/-
  SoundD (a part of a claim: our own text).
-/
import Derived.Test.YtlalffdgimbodaaGreatYHSoundC
namespace Go.Abs
inductive All2 {α β:Type} (R:α->β->Prop):List α->List β->Prop
 |nil:All2 R [] []
 |cons {a:α} {b:β} {l:List α} {m:List β}:R a b->All2 R l m->All2 R (a::l) (b::m)
theorem Ozk (off:Nat):∀ (vs:List Value) (i:Nat) (cs:Array Value),off+i+vs.length≤cs.size->
 ((vs.zipIdx i).foldl (fun cs (x:Value×Nat)=>cs.setIfInBounds (off+x.2) x.1) cs)=(cs.toList.take (off+i)++vs++cs.toList.drop (off+i+vs.length)).toArray
 |[],i,cs,_=>by simp
 |v::vs,i,cs,h=>by
  simp only[List.length_cons]at h
  simp only[List.zipIdx_cons,List.foldl_cons]
  rw[Ozk off vs (i+1) _ (by simp;omega)]
  have e:=list_seg_step cs.toList (off+i) v vs (by simp;omega)
  simpa[Array.toList_setIfInBounds,Nat.add_assoc]using e
theorem Ozi (vs:Array Value)(off:Nat)(cs:Array Value)(h:off+vs.size≤cs.size):
 (vs.zipIdx.foldl (fun cs (c,j)=>cs.setIfInBounds (off+j) c) cs)=(cs.toList.take off++vs.toList++cs.toList.drop (off+vs.size)).toArray:=by
 have:=Ozk off vs.toList 0 cs (by simpa using h)
 rw[←Array.foldl_toList,Array.toList_zipIdx]
 simpa using this
theorem hzk {α:Type}(cs vs:List α)(off j:Nat)(h:off+vs.length≤cs.length):
 (cs.take off++vs++cs.drop (off+vs.length))[j]?=if off≤j/\j<off+vs.length then vs[j-off]? else cs[j]?:=by
 by_cases h1:j<off
 ·rw[if_neg (by omega),List.append_assoc,List.getElem?_append_left (by simp;omega),List.getElem?_take_of_lt h1]
 ·by_cases h2:j<off+vs.length
  ·rw[if_pos ⟨by omega,h2⟩,List.append_assoc,List.getElem?_append_right (by simp;omega),List.getElem?_append_left (by simp;omega)]
   congr 1;simp;omega
  ·rw[if_neg (by omega),List.getElem?_append_right (by simp;omega),List.getElem?_drop]
   congr 1;simp;omega
theorem ez5 {α:Type}(cs vs:List α)(off:Nat)(h:off+vs.length≤cs.length):(cs.take off++vs++cs.drop (off+vs.length)).length=cs.length:=by
 simp;omega
variable {P:Program} {o:Oper} {env:Operand->AVal} {m:Mem} {id:Nat}
section
variable {F:Cells} {w:World} {ρ:Env}
def LRel (F:Cells)(w:World)(ρ:Env)(cs:List AVal)(vs:List Value):Prop:=
 cs.length=vs.length/\∀ (j:Nat) (a:AVal) (v:Value),cs[j]?=some a->vs[j]?=some v->ARel F w ρ a v
theorem LRel.over {cs us:List AVal}{vs xs:List Value}(h:LRel F w ρ cs vs)(h':LRel F w ρ us xs)(off:Nat)(hle:off+us.length≤cs.length):
 LRel F w ρ (cs.take off++us++cs.drop (off+us.length)) (vs.take off++xs++vs.drop (off+xs.length)):=by
 have e1:=h.1
 have e2:=h'.1
 refine⟨by rw[ez5 _ _ _ hle,ez5 _ _ _ (by omega)];exact e1,fun j a v ha hv=>?_⟩
 rw[hzk _ _ _ _ hle]at ha
 rw[hzk _ _ _ _ (by omega),←e2]at hv
 split at ha
 ·rename_i hc;rw[if_pos hc]at hv;exact h'.2 _ a v ha hv
 ·rename_i hc;rw[if_neg hc]at hv;exact h.2 _ a v ha hv
theorem Tz7 {a:Act}(place:Nat->Option (Nat×Nat)):∀ (parts:List (Nat×Operand)) (ps:List (Nat×List AVal)) (cs cs':List AVal) (vs:Array Value),
 LRel F w ρ cs vs.toList->(∀x∈parts,ARel F w ρ (env x.2) (a.eval x.2))->
 (All2 (fun (x:Nat×Operand) (y:Nat×List AVal)=>∃s,place x.1=some (y.1,s)/\y.2=(env x.2).cells/\y.2.length=s/\y.2.all (·.scalar)=true) parts ps)->
 over cs ps=some cs'->∃vs':Array Value,Instr.fill place vs (parts.map fun x=>(x.1,a.eval x.2))=some vs'/\LRel F w ρ cs' vs'.toList
 |[],_,cs,cs',vs,hr,_,hf,h=>by
  cases hf
  simp[over]at h;subst h
  exact⟨vs,by simp[Instr.fill],hr⟩
 |x::parts,_,cs,cs',vs,hr,ha,hf,h=>by
  cases hf with
  |cons hxy hf=>
   rename_i y ps
   obtain⟨s,h1,h2,h3,h4⟩:=hxy
   obtain⟨i,x⟩:=x
   obtain⟨off,us⟩:=y
   simp only at h1 h2 h3 h4
   subst h2
   simp only[over]at h
   split at h
   ·rename_i hle
    have hx:=ha (i,x) (by simp)
    obtain⟨hl,hc⟩:=hx.cells h4
    simp only at hl hc
    have hcs:cs.length=vs.size:=by simpa using hr.1
    have hus:LRel F w ρ (env x).cells (a.eval x).cells.toList:=⟨by simpa using hl,fun j b v hb hv=>(hc j b v hb (by simpa using hv)).1⟩
    have hnew:=hr.over hus off hle
    obtain⟨vs',h5,h6⟩:=Tz7 place parts ps _ cs' ((vs.toList.take off++(a.eval x).cells.toList++vs.toList.drop (off+(a.eval x).cells.toList.length)).toArray) (by simpa using hnew) (fun z hz=>ha z (by simp[hz])) hf h
    refine⟨vs',?_,h6⟩
    rw[List.map_cons]
    simp only[Instr.fill,h1]
    rw[if_neg (by simp only[Bool.or_eq_true,decide_eq_true_eq,not_or];exact⟨fun hh=>hh (by rw[←h3,hl]),by omega⟩),Ozi _ _ _ (by omega)]
    simpa using h5
   ·cases h
end
def Ezd (P:Program)(t:TypeId)(i:Nat):Option (Nat×Nat):=
 match P.underlying t with
 |some (.struct fs)=>match fs[i]? with
  |some f=>match bzu P f.type with
   |some s=>some (f.offset,s)
   |none=>none
  |none=>none
 |some (.array _ e)=>match bzu P e with
  |some s=>some (i * s,s)
  |none=>none
 |_=>none
theorem zzx {t:TypeId}:∀ (parts:List (Nat×Operand)) (ps:List (Nat×List AVal)),nzz P t env parts=some ps->
 All2 (fun (x:Nat×Operand) (y:Nat×List AVal)=>∃s,Ezd P t x.1=some (y.1,s)/\y.2=(env x.2).cells/\y.2.length=s/\y.2.all (·.scalar)=true) parts ps
 |[],ps,h=>by simp[nzz]at h;subst h;exact .nil
 |(i,x)::parts,ps,h=>by
  have e:nzz P t env ((i,x)::parts)=match Ezd P t i,nzz P t env parts with
   |some (off,s),some l=>if(env x).cells.length=s&&(env x).cells.all (·.scalar)then some ((off,(env x).cells)::l)else none
   |_,_=>none:=rfl
  rw[e]at h
  split at h
  ·rename_i off s l h1 h2
   split at h
   ·rename_i hc
    simp only[Bool.and_eq_true,decide_eq_true_eq]at hc
    simp at h;subst h
    exact .cons ⟨s,h1,rfl,hc.1,hc.2⟩ (zzx parts l h2)
   ·cases h
  ·cases h
theorem Kzv:∀ (fs:List Field),(fs.all fun f=>(bzu P f.type).isSome)=true->∃pl,fs.mapM (fun (f:Field)=>(P.info? f.type).map fun i=>(f.offset,i.size))=some pl/\
 ∀ (i:Nat),pl[i]?=match fs[i]? with|some f=>(match bzu P f.type with|some s=>some (f.offset,s)|none=>none)|none=>none
 |[],_=>⟨[],by simp,by simp⟩
 |f::fs,h=>by
  simp only[List.all_cons,Bool.and_eq_true]at h
  obtain⟨pl,h1,h2⟩:=Kzv fs h.2
  obtain⟨s,hs⟩:=Option.isSome_iff_exists.1 h.1
  obtain⟨inf,hi,hsz⟩:=izy hs
  refine⟨(f.offset,s)::pl,by simp[List.mapM_cons,hi,hsz,h1],fun i=>?_⟩
  cases i with
  |zero=>simp[hs]
  |succ i=>simpa using h2 i
theorem run_build' {w:World}{t:TypeId}{z:List Value}(hz:qzo P t=some z)(hs:Yzt P t=true)(parts:Array (Nat×Value))(cells:Array Value)
 (h:Instr.fill (Ezd P t) z.toArray parts.toList=some cells):(Instr.build t parts).run P w=.ok (.agg cells) w:=by
 refine run_build w t parts cells ?_
 obtain⟨it,v,hi,hzv,hvz⟩:=vzk hz
 have hc:v.cells=z.toArray:=by rw[←hvz]
 unfold Yzt at hs
 split at hs
 ·rename_i fs hu
  obtain⟨pl,h1,h2⟩:=Kzv (P:=P) fs.toList hs
  simp only[Program.built,hi,hu,hzv,h1,hc]
  rw[←h]
  congr 1
  funext i
  rw[List.getElem?_toArray,h2]
  simp only[Ezd,hu,Array.getElem?_toList]
 ·rename_i n e hu
  obtain⟨s,hs'⟩:=Option.isSome_iff_exists.1 hs
  obtain⟨inf,hie,hsz⟩:=izy hs'
  simp only[Program.built,hi,hu,hzv,hie,hc]
  rw[←h]
  congr 1
  funext i
  simp[Ezd,hu,hs',hsz]
 ·cases hs
theorem Oz6 {F:Cells}{w:World}{ρ:Env}{Mine:Nat->Prop}{M:Mem}(hm:MemOk F w ρ Mine M)(g:Good F w Mine)(fr:Fresh id M)(zs:Mem)
 (hz:∀i r,zs.get i=some r->r=.nilv/\Own id i):czz id ρ (ρ.clear id)/\MemOk F w (ρ.clear id) Mine (zs++M):=by
 have he:czz id ρ (ρ.clear id):=fun i hi=>⟨rfl,if_neg hi⟩
 refine⟨he,MemOk.step hm (Step.refl g) (fun i=>¬Own id i) he zs (fun j r h _=>⟨fun hj=>(by rw[fr.none j hj]at h;cases h),fun i hi=>fr.has i j r (Classical.not_not.1 hi) h,fun b _=>⟨rfl,fun _ h=>h⟩⟩) (fun j r h=>?_) (fun j j' r r' b h h' hb hb'=>?_)⟩
 ·obtain⟨rfl,ho⟩:=hz j r h
  exact⟨if_pos ho,fun b hb=>by simp[Owns,nzi,bzb]at hb⟩
 ·obtain⟨rfl,_⟩:=hz j r h
  simp[Owns,nzi,bzb]at hb
theorem az4e {t:TypeId}{parts:Array (Nat×Operand)}{out:Out}(ho:o.op=.build t parts)(h:Rz7 P t id env parts.toList=some out):Sound1 P o env m id out:=by
 unfold Rz7 at h
 split at h
 ·rename_i z ps hz hps
  split at h
  ·rename_i cs hcs
   split at h
   ·rename_i hs
    simp only[Bool.and_eq_true,decide_eq_true_eq]at hs
    cases h
    intro F w ρ Mine M a hm g fr _ hfe ha
    have hop:∀x∈parts.toList,x.2∈o.op.operands:=fun x hx=>by
     simp only[ho,Op.operands,List.mem_toArray,List.mem_map]
     exact⟨x,hx,rfl⟩
    obtain⟨he,hm'⟩:=Oz6 hm g fr (zmem id z) (fun i r h=>by obtain⟨q1,q2,q3⟩:=Nzs z id i r h;exact⟨q1,q2,by omega⟩)
    have hz0:=zz8 (F:=F) (w:=w) (ρ:=ρ.clear id) z id (fun i h1 h2=>if_pos ⟨h1,by omega⟩)
    obtain⟨vs',h1,h2⟩:=Tz7 (F:=F) (w:=w) (ρ:=ρ.clear id) (env:=env) (a:=a) (Ezd P t) parts.toList ps (pzh id z) cs z.toArray ⟨by simpa using hz0.1,by simpa using hz0.2⟩
     (fun x hx=>(ha x.2 (hop x hx)).mono (fun i=>¬Own id i) (fun _ _ h=>h) (fun _ _ _=>rfl) he (fun i hi=>hfe x.2 (hop x hx) i (Classical.not_not.1 hi))) (zzx parts.toList ps hps) hcs
    refine⟨.agg vs',w,F,ρ.clear id,.value ?_,Step.refl g,he,ARel.mkAgg (by simpa using h2.1) (fun j b v hb hv=>h2.2 j b v hb (by simpa using hv)),hm'⟩
    have hr:=run_build' (w:=w) hz hs.1 (parts.map fun x=>(x.1,a.eval x.2)) vs' (by simpa using h1)
    simp only[execOp,ho,Sem.run_bind]
    rw[show(parts.map fun (x:Nat×Operand)=>match x with|(i,x)=>(i,a.eval x))=parts.map fun x=>(x.1,a.eval x.2)from rfl,hr]
    simp
   ·cases h
  ·cases h
 ·cases h
theorem az77 (ho:o.op=.assign (.const (.slice none 0 0))):Sound1 P o env m id ⟨.vec id,[],[(id,.nilv)],none⟩:=by
 intro F w ρ Mine M a hm g fr _ _ _
 obtain⟨he,hm'⟩:=Oz6 hm g fr [(id,.nilv)] (fun i r h=>by
  simp only[Mem.get]at h
  split at h
  ·rename_i e;subst e;cases h;exact⟨rfl,Nat.le_refl _,by omega⟩
  ·cases h)
 exact⟨.slice none 0 0,w,F,ρ.clear id,.value (by simp[execOp,ho,Act.eval]),Step.refl g,he,.vnil (if_pos ⟨Nat.le_refl _,by omega⟩),hm'⟩
end Go.Abs
