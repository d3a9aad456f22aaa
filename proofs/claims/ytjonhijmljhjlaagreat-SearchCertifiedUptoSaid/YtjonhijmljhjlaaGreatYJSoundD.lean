import Derived.Test.YtjonhijmljhjlaaGreatYJSoundC
open Bool renaming and_eq_true->qm
open Classical renaming not_not->zG
open Go renaming Operand->zI,Value->qr
open List renaming append_assoc->xo,getElem?_append_left->zq,getElem?_append_right->zr
open Option renaming isSome_iff_exists->zY
namespace Go.Abs
inductive All2 {α β:Type} (R:α->β->Prop):List α->List β->Prop
 |nil:All2 R [] []
 |cons {a:α} {b:β} {l:List α} {m:List β}:R a b->All2 R l m->All2 R (a::l) (b::m)
theorem Szj (off:Nat):∀ (vs:List qr) (i:Nat) (cs:Array qr),off+i+vs.length<=cs.size->
 ((vs.zipIdx i).foldl (λcs (x:qr×Nat)=>cs.setIfInBounds (off+x.2) x.1) cs)=(cs.toList.take (off+i)++vs++cs.toList.drop (off+i+vs.length)).toArray
 |[],i,cs,_=>by simp
 |v::vs,i,cs,h=>by
  simp only[List.length_cons]at h;simp only[List.zipIdx_cons,List.foldl_cons];rw[Szj off vs (i+1) _ (by simp;omega)];have e:=list_seg_step cs.toList (off+i) v vs (by simp;omega);simpa[Array.toList_setIfInBounds,Nat.add_assoc]using e
theorem Szh (vs:Array qr)(off:Nat)(cs:Array qr)(h:off+vs.size<=cs.size):
 (vs.zipIdx.foldl (λcs (c,j)=>cs.setIfInBounds (off+j) c) cs)=(cs.toList.take off++vs.toList++cs.toList.drop (off+vs.size)).toArray:=by
 have:=Szj off vs.toList 0 cs (by simpa using h);rw[<-Array.foldl_toList,Array.toList_zipIdx];simpa using this
theorem iz0 {α:Type}(cs vs:List α)(off j:Nat)(h:off+vs.length<=cs.length):
 (cs.take off++vs++cs.drop (off+vs.length))[j]?=if off<=j/\j<off+vs.length then vs[j-off]? else cs[j]?:=by
 by_cases h1:j<off
 ·rw[qb qa,xo,zq (by simp;omega),List.getElem?_take_of_lt h1]
 ·by_cases h2:j<off+vs.length
  ·rw[qc ⟨qa,h2⟩,xo,zr (by simp;omega),zq (by simp;omega)];congr 1;simp;omega
  ·rw[qb qa,zr (by simp;omega),List.getElem?_drop];congr 1;simp;omega
theorem ezh {α:Type}(cs vs:List α)(off:Nat)(h:off+vs.length<=cs.length):(cs.take off++vs++cs.drop (off+vs.length)).length=cs.length:=by
 simp;omega
variable {P:Program} {o:Oper} {env:zI->AVal} {m:Mem} {id:Nat}
section
variable {F:Cells} {w:World} {ρ:Env}
def LRel (F:Cells)(w:World)(ρ:Env)(cs:List AVal)(vs:List qr):Prop:=
 cs.length=vs.length/\∀ (j:Nat) (a:AVal) (v:qr),cs[j]?=some a->vs[j]?=some v->ARel F w ρ a v
theorem LRel.over {cs us:List AVal}{vs xs:List qr}(h:LRel F w ρ cs vs)(h':LRel F w ρ us xs)(off:Nat)(hle:off+us.length<=cs.length):
 LRel F w ρ (cs.take off++us++cs.drop (off+us.length)) (vs.take off++xs++vs.drop (off+xs.length)):=by
 have e1:=h.1;have e2:=h'.1;refine⟨by rw[ezh _ _ _ hle,ezh _ _ _ qa];exact e1,λj a v ha hv=>?_⟩;rw[iz0 _ _ _ _ hle]at ha;rw[iz0 _ _ _ _ qa,<-e2]at hv;split at ha
 ·rename_i hc;rw[qc hc]at hv;exact h'.2 _ a v ha hv
 ·rename_i hc;rw[qb hc]at hv;exact h.2 _ a v ha hv
theorem Xzk {a:Act}(place:Nat->Option (Nat×Nat)):∀ (parts:List (Nat×zI)) (ps:List (Nat×List AVal)) (cs cs':List AVal) (vs:Array qr),
 LRel F w ρ cs vs.toList->(∀x∈parts,ARel F w ρ (env x.2) (a.eval x.2))->
 (All2 (λ(x:Nat×zI) (y:Nat×List AVal)=>∃s,place x.1=some (y.1,s)/\y.2=(env x.2).cells/\y.2.length=s/\y.2.all (·.scalar)=true) parts ps)->
 over cs ps=some cs'->∃vs':Array qr,Instr.fill place vs (parts.map λx=>(x.1,a.eval x.2))=some vs'/\LRel F w ρ cs' vs'.toList
 |[],_,cs,cs',vs,hr,_,hf,h=>by
  cases hf;simp[over]at h;subst h;exact⟨vs,by simp[Instr.fill],hr⟩
 |x::parts,_,cs,cs',vs,hr,ha,hf,h=>by
  cases hf with
  |cons hxy hf=>
   rename_i y ps;obtain⟨s,h1,h2,h3,h4⟩:=hxy;obtain⟨i,x⟩:=x;obtain⟨off,us⟩:=y;simp only at h1 h2 h3 h4;subst h2;simp only[over]at h;split at h
   ·rename_i hle;have hx:=ha (i,x) (by simp);obtain⟨hl,hc⟩:=hx.cells h4;simp only at hl hc;have hcs:cs.length=vs.size:=by simpa using hr.1
    have hus:LRel F w ρ (env x).cells (a.eval x).cells.toList:=⟨by simpa using hl,λj b v hb hv=>(hc j b v hb (by simpa using hv)).1⟩;have hnew:=hr.over hus off hle;obtain⟨vs',h5,h6⟩:=Xzk place parts ps _ cs' ((vs.toList.take off++(a.eval x).cells.toList++vs.toList.drop (off+(a.eval x).cells.toList.length)).toArray) (by simpa using hnew) (λz hz=>ha z (by simp[hz])) hf h;refine⟨vs',?_,h6⟩;rw[List.map_cons];simp only[Instr.fill,h1];rw[qb (by simp only[Bool.or_eq_true,qf,not_or];exact⟨λhh=>hh (by rw[<-h3,hl]),qa⟩),Szh _ _ _ qa];simpa using h5
   ·cases h
end
def Hzi (P:Program)(t:TypeId)(i:Nat):Option (Nat×Nat):=
 match P.underlying t with
 |some (.struct fs)=>match fs[i]? with
  |some f=>match cz2 P f.type with
   |some s=>some (f.offset,s)
   |none=>none
  |none=>none
 |some (.array _ e)=>match cz2 P e with
  |some s=>some (i * s,s)
  |none=>none
 |_=>none
theorem Czh {t:TypeId}:∀ (parts:List (Nat×zI)) (ps:List (Nat×List AVal)),pzv P t env parts=some ps->
 All2 (λ(x:Nat×zI) (y:Nat×List AVal)=>∃s,Hzi P t x.1=some (y.1,s)/\y.2=(env x.2).cells/\y.2.length=s/\y.2.all (·.scalar)=true) parts ps
 |[],ps,h=>by simp[pzv]at h;subst h;exact .nil
 |(i,x)::parts,ps,h=>by
  have e:pzv P t env ((i,x)::parts)=match Hzi P t i,pzv P t env parts with
   |some (off,s),some l=>if(env x).cells.length=s&&(env x).cells.all (·.scalar)then some ((off,(env x).cells)::l)else none
   |_,_=>none:=rfl
  rw[e]at h;split at h
  ·rename_i off s l h1 h2;split at h
   ·rename_i hc;simp only[qm,qf]at hc;simp at h;subst h;exact .cons ⟨s,h1,rfl,hc.1,hc.2⟩ (Czh parts l h2)
   ·cases h
  ·cases h
theorem Ozo:∀ (fs:List Field),(fs.all λf=>(cz2 P f.type).isSome)=true->∃pl,fs.mapM (λ(f:Field)=>(P.info? f.type).map λi=>(f.offset,i.size))=some pl/\
 ∀ (i:Nat),pl[i]?=match fs[i]? with|some f=>(match cz2 P f.type with|some s=>some (f.offset,s)|none=>none)|none=>none
 |[],_=>⟨[],by simp,by simp⟩
 |f::fs,h=>by
  simp only[List.all_cons,qm]at h;obtain⟨pl,h1,h2⟩:=Ozo fs h.2;obtain⟨s,hs⟩:=zY.1 h.1;obtain⟨inf,hi,hsz⟩:=hz8 hs;refine⟨(f.offset,s)::pl,by simp[List.mapM_cons,hi,hsz,h1],λi=>?_⟩;cases i with
  |zero=>simp[hs]
  |succ i=>simpa using h2 i
theorem run_build' {w:World}{t:TypeId}{z:List qr}(hz:oz5 P t=some z)(hs:az3g P t=true)(parts:Array (Nat×qr))(cells:Array qr)
 (h:Instr.fill (Hzi P t) z.toArray parts.toList=some cells):(Instr.build t parts).run P w=.ok (.agg cells) w:=by
 refine run_build w t parts cells ?_;obtain⟨it,v,hi,hzv,hvz⟩:=mzz hz;have hc:v.cells=z.toArray:=by rw[<-hvz]
 unfold az3g at hs;split at hs
 ·rename_i fs hu;obtain⟨pl,h1,h2⟩:=Ozo (P:=P) fs.toList hs;simp only[Program.built,hi,hu,hzv,h1,hc];rw[<-h];congr 1;funext i;rw[List.getElem?_toArray,h2];simp only[Hzi,hu,Array.getElem?_toList]
 ·rename_i n e hu;obtain⟨s,hs'⟩:=zY.1 hs;obtain⟨inf,hie,hsz⟩:=hz8 hs';simp only[Program.built,hi,hu,hzv,hie,hc];rw[<-h];congr 1;funext i;simp[Hzi,hu,hs',hsz]
 ·cases hs
theorem Rzz {F:Cells}{w:World}{ρ:Env}{Mine:Nat->Prop}{M:Mem}(hm:MemOk F w ρ Mine M)(g:Good F w Mine)(fr:Fresh id M)(zs:Mem)
 (hz:∀i r,zs.get i=some r->r=.nilv/\Own id i):dzr id ρ (ρ.clear id)/\MemOk F w (ρ.clear id) Mine (zs++M):=by
 have he:dzr id ρ (ρ.clear id):=λi hi=>⟨rfl,qb hi⟩
 refine⟨he,MemOk.step hm (Step.refl g) (λi=>¬Own id i) he zs (λj r h _=>⟨λhj=>(by rw[fr.none j hj]at h;cases h),λi hi=>fr.has i j r (zG.1 hi) h,λb _=>⟨rfl,λ_ h=>h⟩⟩) (λj r h=>?_) (λj j' r r' b h h' hb hb'=>?_)⟩
 ·obtain⟨rfl,ho⟩:=hz j r h;exact⟨qc ho,λb hb=>by simp[Owns,nzl,bzg]at hb⟩
 ·obtain⟨rfl,_⟩:=hz j r h;simp[Owns,nzl,bzg]at hb
theorem az9g {t:TypeId}{parts:Array (Nat×zI)}{out:Out}(ho:o.op=.build t parts)(h:Vzh P t id env parts.toList=some out):Sound1 P o env m id out:=by
 unfold Vzh at h;split at h
 ·rename_i z ps hz hps;split at h
  ·rename_i cs hcs;split at h
   ·rename_i hs;simp only[qm,qf]at hs;cases h;intro F w ρ Mine M a hm g fr _ hfe ha;have hop:∀x∈parts.toList,x.2∈o.op.operands:=λx hx=>by
     simp only[ho,Op.operands,List.mem_toArray,List.mem_map];exact⟨x,hx,rfl⟩
    obtain⟨he,hm'⟩:=Rzz hm g fr (zmem id z) (λi r h=>by obtain⟨q1,q2,q3⟩:=Rzn z id i r h;exact⟨q1,q2,qa⟩);have hz0:=Bzm (F:=F) (w:=w) (ρ:=ρ.clear id) z id (λi h1 h2=>qc ⟨h1,qa⟩)
    obtain⟨vs',h1,h2⟩:=Xzk (F:=F) (w:=w) (ρ:=ρ.clear id) (env:=env) (a:=a) (Hzi P t) parts.toList ps (rzf id z) cs z.toArray ⟨by simpa using hz0.1,by simpa using hz0.2⟩
     (λx hx=>(ha x.2 (hop x hx)).mono (λi=>¬Own id i) (λ_ _ h=>h) (λ_ _ _=>rfl) he (λi hi=>hfe x.2 (hop x hx) i (zG.1 hi))) (Czh parts.toList ps hps) hcs
    refine⟨.agg vs',w,F,ρ.clear id,.value ?_,Step.refl g,he,ARel.mkAgg (by simpa using h2.1) (λj b v hb hv=>h2.2 j b v hb (by simpa using hv)),hm'⟩;have hr:=run_build' (w:=w) hz hs.1 (parts.map λx=>(x.1,a.eval x.2)) vs' (by simpa using h1);simp only[execOp,ho,Sem.run_bind];rw[show(parts.map λ(x:Nat×zI)=>match x with|(i,x)=>(i,a.eval x))=parts.map λx=>(x.1,a.eval x.2)from rfl,hr];simp
   ·cases h
  ·cases h
 ·cases h
theorem azct (ho:o.op=.assign (.const (.slice none 0 0))):Sound1 P o env m id ⟨.vec id,[],[(id,.nilv)],none⟩:=by
 intro F w ρ Mine M a hm g fr _ _ _;obtain⟨he,hm'⟩:=Rzz hm g fr [(id,.nilv)] (λi r h=>by
  simp only[Mem.get]at h;split at h
  ·rename_i e;subst e;cases h;exact⟨rfl,Nat.le_refl _,qa⟩
  ·cases h)
 exact⟨.slice none 0 0,w,F,ρ.clear id,.value (by simp[execOp,ho,Act.eval]),Step.refl g,he,.vnil (qc ⟨Nat.le_refl _,qa⟩),hm'⟩
end Go.Abs
